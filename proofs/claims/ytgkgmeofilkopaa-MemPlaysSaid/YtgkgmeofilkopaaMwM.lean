/- Layer 9: latheref09.Pack, walked. No condition but a number within its kind. -/
import Derived.Test.YtgkgmeofilkopaaMwC
import Derived.Test.YtgkgmeofilkopaaMwF
import Derived.Test.YtgkgmeofilkopaaMmE
import Derived.Test.YtgkgmeofilkopaaOwn
import Derived.Deep.AppendLies
namespace Go.Proofs.Ytgkgmeofilkopaa
open Go.RowKit
set_option linter.unusedSimpArgs false
set_option linter.unusedVariables false

def preB (t : Int) (x : Val) (k : Nat) : List Byt := (List.range k).map (byteS t x)
theorem preB_len (t : Int) (x : Val) (k : Nat) : (preB t x k).length = k := by simp [preB]
theorem preB_snoc (t : Int) (x : Val) (k : Nat) : preB t x (k + 1) = preB t x k ++ [byteS t x k] := by simp [preB, List.range_succ]
theorem norm_kind (t : Int) (v : Val) : (normS t v).kind = 0 ∨ (normS t v).kind = 1 ∨ (normS t v).kind = 2 ∨ (normS t v).kind = 3 := by
  unfold normS
  split
  · exact .inr (.inl rfl)
  · split
    · exact .inr (.inr (.inl rfl))
    · split
      · exact .inr (.inr (.inr rfl))
      · exact .inl rfl
theorem Own.later {α : Type} {R : Rp α} {n : Nat} {T : TypeId} {w w' : World} {base B : Nat} {v : Value} {ys : List α} (h : Own R n T w base B v ys) (hb : Below w.heap.size w w') (hB : B ≤ w.heap.size) : Own R n T w' base B v ys := by
  obtain ⟨xs, hrow⟩ := h.row
  refine h.kept (row := some w.heap.size) ⟨hb.os, hb.tape, hb.output, hb.size, fun k hk _ => hb.block k hk⟩ ?_ hB (fun k hk => by cases hk; exact hB)
  cases hv : v.ownBlock with
  | none => exact .inl rfl
  | some k => exact .inr (fun e => by have := (hrow.lt k hv).2; cases e; omega)
theorem Own.lower {α : Type} {R : Rp α} {n : Nat} {T : TypeId} {w : World} {base base' B : Nat} {v : Value} {ys : List α} (h : Own R n T w base B v ys) (hb : base' ≤ base) : Own R n T w base' B v ys := by
  obtain ⟨ess, hl, hown, hr⟩ := h
  refine ⟨ess, hl, ⟨hown.1, ?_⟩, hr⟩
  rcases hown.2 with hn | ⟨g, cap, cur, rfl, hg, rest⟩
  · exact .inl hn
  · exact .inr ⟨g, cap, cur, rfl, Nat.le_trans hb hg, rest⟩
/-- what latheref09.Pack answers -/
def RPackPost (t : Int) (v : Val) (W : World) (e : Ending) (w' : World) : Prop :=
  ∃ c, e = .returned c ∧ Own RByu 5 54 w' W.heap.size 0 c (packS t v) ∧ Below W.heap.size W w'
set_option maxRecDepth 100000 in
set_option maxHeartbeats 6400000 in
theorem rpack_any (t : Int) (v : Val) (w : World) (hv : 0 ≤ v.bits ∧ v.bits ≤ 18446744073709551615) : Calls Try.prog 32 #[.int .i64 t, vv v] w (RPackPost t v w) := by
  obtain ⟨x, hx⟩ : ∃ x, Hid (normS t v = x) := ⟨_, hide rfl⟩
  have cN : Hid (∀ W, Calls Try.prog 37 #[.int .i64 t, vv v] W fun e w' => e = .returned (vv x) ∧ Below W.heap.size W w') := hide (fun W => by rw [← hx.out]; exact rnorm_any t v W hv)
  have hxk : Hid (x.kind = 0 ∨ x.kind = 1 ∨ x.kind = 2 ∨ x.kind = 3) := hide (by rw [← hx.out]; exact norm_kind t v)
  have hxb : 0 ≤ x.bits ∧ x.bits ≤ 18446744073709551615 := by rw [← hx.out]; exact norm_bits t v hv
  obtain ⟨n, hn⟩ : ∃ n : Nat, Hid ((countS t).toNat = n) := ⟨_, hide rfl⟩
  have hn8 : n ≤ 8 := by have := countS_le t; have := hn.out; omega
  have cC : Hid (∀ W, Calls Try.prog 71 #[.int .i64 t] W fun e w' => e = .returned (.int .i64 (n : Int)) ∧ W = w') := hide (fun W => by
    have h1 := rcount_any t W
    have h2 : countS t = (n : Int) := by have := countS_le t; have := hn.out; omega
    rwa [h2] at h1)
  obtain ⟨i0, hi0, hz0, hz1, hz2⟩ := info_parts info_Byte
  replace hi0 := hide hi0
  replace hz0 := hide hz0
  replace hz1 := hide hz1
  replace hz2 := hide hz2
  have hb0 := (Below.refl w.heap.size w).alloc (Nat.le_refl _) (.cells #[.int .i64 v.kind, .int .u64 v.bits, .int .i64 v.block, .int .i64 v.off] 47)
  go_enter Try.func32, Try.ntmps32
  go_wp2_with fail
  refine (cN.out _).mono ?_
  rintro e w1 ⟨rfl, hb1⟩
  have hb2 := hide ((hb0.trans (hb1.mono (by simp))).alloc (by have := hb1.size; simp at this; omega) (.cells #[.int .i64 x.kind, .int .u64 x.bits, .int .i64 x.block, .int .i64 x.off] 47))
  clear hb0 hb1
  go_upto_region 3 with (fail)
  obtain ⟨U, hU⟩ : ∃ U, U = w1.alloc (.cells #[.int .i64 x.kind, .int .u64 x.bits, .int .i64 x.block, .int .i64 x.off] 47) := ⟨_, rfl⟩
  have hX : U.heap[w1.heap.size]? = some (.cells #[.int .i64 x.kind, .int .u64 x.bits, .int .i64 x.block, .int .i64 x.off] 47 (0, 0)) := by rw [hU]; exact box_top _ _
  rw [← hU] at hb2 ⊢
  obtain ⟨N, hN⟩ : ∃ N, N = w1.heap.size := ⟨_, rfl⟩
  rw [← hN] at hX ⊢
  clear hU hN
  have hNU := (Array.getElem?_eq_some_iff.1 hX).1
  have x0 : ∀ w', Below U.heap.size U w' → w'.cell? ⟨N, 0, none⟩ = some (.int .i64 x.kind) := fun w' h => box_cell hX rfl hNU h
  have x1 : ∀ w', Below U.heap.size U w' → w'.cell? ⟨N, 1, none⟩ = some (.int .u64 x.bits) := fun w' h => box_cell hX rfl hNU h
  have x2 : ∀ w', Below U.heap.size U w' → w'.cell? ⟨N, 2, none⟩ = some (.int .i64 x.block) := fun w' h => box_cell hX rfl hNU h
  have x3 : ∀ w', Below U.heap.size U w' → w'.cell? ⟨N, 3, none⟩ = some (.int .i64 x.off) := fun w' h => box_cell hX rfl hNU h
  replace hX := hide hX
  have hself := Below.refl U.heap.size U
  go_wp2_with fail
  go_loopw [5, 7, 8] (fun l r i wr => ∃ k : Nat, k ≤ n ∧ i = .int .i64 k ∧ r = .int .u64 (x.bits / 256 ^ k) ∧ Hid (Own RByu 5 54 wr U.heap.size 0 l (preB t x k)) ∧ Below U.heap.size U wr) (fun _ _ i _ => n - (intOf i).toNat)
  case atStart => exact ⟨0, Nat.zero_le _, rfl, by simp, hide Own.nil_, hself⟩
  case round =>

    obtain ⟨k, hk, rfl, rfl, hl, hbel⟩ := hrel
    have hbs := hbel.size
    by_cases hlt : k < n
    · go_upto_region 8 with (go_at_call 71; refine (cC.out _).mono ?_; rintro e w' ⟨rfl, rfl⟩)
      have hL0 : 0 ≤ x.bits / 256 ^ k := Int.ediv_nonneg hxb.1 (Int.pow_nonneg (by decide))
      have hL1 : x.bits / 256 ^ k ≤ 18446744073709551615 := Int.le_trans (Int.ediv_le_self _ hxb.1) hxb.2
      have hLs : Hid (x.bits / 256 ^ (k + 1) = x.bits / 256 ^ k / 256) := hide (by rw [Int.pow_succ, Int.ediv_ediv_of_nonneg (Int.pow_nonneg (by decide))])
      obtain ⟨L, hL⟩ : ∃ L, Hid (x.bits / 256 ^ k = L) := ⟨_, hide rfl⟩
      rw [hL.out] at hL0 hL1 hLs ⊢
      have e1 : IntKind.u64.wrap (L.tdiv 256) = L / 256 := by rw [wrap_u, Int.tdiv_eq_ediv_of_nonneg hL0]; omega
      have e2 : L.tmod 256 % 256 = L % 256 := by rw [Int.tmod_eq_emod_of_nonneg hL0]; omega
      replace hL0 := hide hL0
      replace hL1 := hide hL1
      have hvx := box_top wr (.cells #[.int .i64 x.kind, .int .u8 0, .int .i64 0, .int .i64 0, .int .i64 0] 54)
      have hbx := hbel.alloc hbs (.cells #[.int .i64 x.kind, .int .u8 0, .int .i64 0, .int .i64 0, .int .i64 0] 54)
      have hzx := (Below.refl wr.heap.size wr).alloc (Nat.le_refl _) (.cells #[.int .i64 x.kind, .int .u8 0, .int .i64 0, .int .i64 0, .int .i64 0] 54)
      obtain ⟨wx, hwx⟩ : ∃ wx, wx = wr.alloc (.cells #[.int .i64 x.kind, .int .u8 0, .int .i64 0, .int .i64 0, .int .i64 0] 54) := ⟨_, rfl⟩
      rw [← hwx] at hvx hbx hzx ⊢
      obtain ⟨M, hM⟩ : ∃ M, M = wr.heap.size := ⟨_, rfl⟩
      rw [← hM] at hvx ⊢
      have hM1 : wr.heap.size ≤ M := by omega
      have hM2 : U.heap.size ≤ M := by omega
      have hNM : ¬ N = M := by omega
      clear hwx hM hbel
      obtain ⟨z0, z1, z2, z3, z4⟩ := five_cells hvx
      have fz0 := one_free (j := 0) hvx
      have fz1 := one_free (j := 1) hvx
      have fz2 := one_free (j := 2) hvx
      have fz3 := one_free (j := 3) hvx
      have fz4 := one_free (j := 4) hvx
      replace hM1 := hide hM1
      replace hzx := hide hzx
      obtain g | g | g | g := hxk.out
      · have hbyS : byteS t x k = zb := by rw [byteS, if_neg (by omega), if_neg (by omega), if_neg (by omega)]
        replace hbyS := hide hbyS
        go_upto_region 14 with (fail)
        have hlY := hide (hl.out.later (w' := wx) (hzx.out) (Nat.zero_le _))
        have hby : Below U.heap.size U (wx) := hbx
        have hrowY : (wx).heap[M]? = some (.cells #[.int .i64 (byteS t x k).kind, .int .u8 (byteS t x k).bits, .int .i64 (byteS t x k).block, .int .i64 (byteS t x k).off, .int .i64 (byteS t x k).i] 54 (0, 0)) := by rw [hbyS.out]; exact (by have := hvx; rw [g] at this; exact this)
        obtain ⟨wy, hwy⟩ : ∃ wy, wy = wx := ⟨_, rfl⟩
        rw [← hwy] at hlY hby hrowY ⊢
        clear hwy hvx fz0 fz1 fz2 fz3 fz4 z0 z1 z2 z3 z4 hbx hzx
        obtain ⟨bb, hbb⟩ : ∃ bb, Hid (byteS t x k = bb) := ⟨_, hide rfl⟩
        rw [hbb.out] at hrowY
        have hby2 := hby.size
        obtain ⟨m0, m1, m2, m3, m4⟩ := Row.cells (l := [bb]) (k := 0) (b := bb) (by rw [Row, hrowY]; rfl) rfl
        simp only [Nat.zero_mul, Nat.zero_add] at m0 m1 m2 m3 m4
        have hsn : Hid (preB t x (k + 1) = preB t x k ++ [bb]) := hide (by rw [preB_snoc, hbb.out])
        have hbk : Hid (0 ≤ bb.bits ∧ bb.bits ≤ 255) := hide (by rw [← hbb.out]; exact byteS_ok t x k)
        clear hrowY
        obtain ⟨ess, hel, hown, hrep⟩ := hlY.out
        have hl0 := hown.lt
        rw [preB_len] at hel hown
        have hown2 := hide (hown.alloc (.cells #[.int .i64 bb.kind, .int .u8 bb.bits, .int .i64 bb.block, .int .i64 bb.off, .int .i64 bb.i] 54))
        replace hel := hide hel
        replace hrep := hide hrep
        replace hl0 := hide hl0
        clear hown
        go_wp2_with (at_builtin; refine wpList_append_own _ rfl (.tmp 50) (.tmp 52) _ rfl U.heap.size 54 i0 _ 5 40 Try.underlying48 hi0.out hz0.out hz1.out hz2.out rfl (by omega) u5 k _ rfl hown2.out ⟨wy.heap.size, 0, none⟩ 1 1 [.int .i64 bb.kind, .int .u8 bb.bits, .int .i64 bb.block, .int .i64 bb.off, .int .i64 bb.i] rfl rfl ?c1 ?c2 ?c3 ?c4 ?c5 ?_)
        case c1 => exact World.news_of_block (cs := #[.int .i64 bb.kind, .int .u8 bb.bits, .int .i64 bb.block, .int .i64 bb.off, .int .i64 bb.i]) (t := 54) (fr := (0, 0)) (heap_alloc_new wy _)
        case c2 => simp [Value.oneCell']
        case c3 => unfold maxLen; omega
        case c4 => omega
        case c5 => simp; omega
        intro v1 w3 hown3 hg3 _
        have hbw3 : Below U.heap.size U w3 := (hby.alloc hby2 _).grown hg3 (by simp; omega) (fun j hj => (hl0.out j hj).1)
        have hL := hide (Own.snoc (R := RByu) (n := 5) (y := bb) (ys := preB t x k) (B := 0) (by rw [preB_len]; exact hel.out) (fun i es y h1 h2 => ⟨(hrep.out i es y h1 h2).1, RByu.keep (hrep.out i es y h1 h2).2 (fun p hp => by omega) (Nat.le_refl _)⟩) (by rw [preB_len]; exact hown3) hg3 (fun j hj => Nat.zero_le _) (Nat.zero_le _) rfl ⟨rfl, hbk.out⟩)
        rw [← hsn.out] at hL
        clear hown3 hg3 m0 m1 m2 m3 m4
        go_wp2
        go_roundw
        case rel => exact ⟨k + 1, by omega, by go_num, by rw [hLs.out], hL, hbw3⟩
        case measure => simp [intOf]; omega
      · have hbyS : byteS t x k = ⟨1, L % 256, 0, 0, 0⟩ := by rw [byteS, if_pos g, hL.out]
        replace hbyS := hide hbyS
        go_upto_region 14 with (fail)
        have hlY := hide (hl.out.later (w' := (wx.setCell ⟨M, 1, none⟩ (.int .u8 (L % 256)))) (hzx.out.setCell hM1.out _) (Nat.zero_le _))
        have hby : Below U.heap.size U ((wx.setCell ⟨M, 1, none⟩ (.int .u8 (L % 256)))) := hbx.setCell hM2 _
        have hrowY : ((wx.setCell ⟨M, 1, none⟩ (.int .u8 (L % 256)))).heap[M]? = some (.cells #[.int .i64 (byteS t x k).kind, .int .u8 (byteS t x k).bits, .int .i64 (byteS t x k).block, .int .i64 (byteS t x k).off, .int .i64 (byteS t x k).i] 54 (0, 0)) := by rw [hbyS.out]; exact (by have := set5_1 (u := .int .u8 (L % 256)) hvx; rw [g] at this; exact this)
        obtain ⟨wy, hwy⟩ : ∃ wy, wy = (wx.setCell ⟨M, 1, none⟩ (.int .u8 (L % 256))) := ⟨_, rfl⟩
        rw [← hwy] at hlY hby hrowY ⊢
        clear hwy hvx fz0 fz1 fz2 fz3 fz4 z0 z1 z2 z3 z4 hbx hzx
        obtain ⟨bb, hbb⟩ : ∃ bb, Hid (byteS t x k = bb) := ⟨_, hide rfl⟩
        rw [hbb.out] at hrowY
        have hby2 := hby.size
        obtain ⟨m0, m1, m2, m3, m4⟩ := Row.cells (l := [bb]) (k := 0) (b := bb) (by rw [Row, hrowY]; rfl) rfl
        simp only [Nat.zero_mul, Nat.zero_add] at m0 m1 m2 m3 m4
        have hsn : Hid (preB t x (k + 1) = preB t x k ++ [bb]) := hide (by rw [preB_snoc, hbb.out])
        have hbk : Hid (0 ≤ bb.bits ∧ bb.bits ≤ 255) := hide (by rw [← hbb.out]; exact byteS_ok t x k)
        clear hrowY
        obtain ⟨ess, hel, hown, hrep⟩ := hlY.out
        have hl0 := hown.lt
        rw [preB_len] at hel hown
        have hown2 := hide (hown.alloc (.cells #[.int .i64 bb.kind, .int .u8 bb.bits, .int .i64 bb.block, .int .i64 bb.off, .int .i64 bb.i] 54))
        replace hel := hide hel
        replace hrep := hide hrep
        replace hl0 := hide hl0
        clear hown
        go_wp2_with (at_builtin; refine wpList_append_own _ rfl (.tmp 50) (.tmp 52) _ rfl U.heap.size 54 i0 _ 5 40 Try.underlying48 hi0.out hz0.out hz1.out hz2.out rfl (by omega) u5 k _ rfl hown2.out ⟨wy.heap.size, 0, none⟩ 1 1 [.int .i64 bb.kind, .int .u8 bb.bits, .int .i64 bb.block, .int .i64 bb.off, .int .i64 bb.i] rfl rfl ?c1 ?c2 ?c3 ?c4 ?c5 ?_)
        case c1 => exact World.news_of_block (cs := #[.int .i64 bb.kind, .int .u8 bb.bits, .int .i64 bb.block, .int .i64 bb.off, .int .i64 bb.i]) (t := 54) (fr := (0, 0)) (heap_alloc_new wy _)
        case c2 => simp [Value.oneCell']
        case c3 => unfold maxLen; omega
        case c4 => omega
        case c5 => simp; omega
        intro v1 w3 hown3 hg3 _
        have hbw3 : Below U.heap.size U w3 := (hby.alloc hby2 _).grown hg3 (by simp; omega) (fun j hj => (hl0.out j hj).1)
        have hL := hide (Own.snoc (R := RByu) (n := 5) (y := bb) (ys := preB t x k) (B := 0) (by rw [preB_len]; exact hel.out) (fun i es y h1 h2 => ⟨(hrep.out i es y h1 h2).1, RByu.keep (hrep.out i es y h1 h2).2 (fun p hp => by omega) (Nat.le_refl _)⟩) (by rw [preB_len]; exact hown3) hg3 (fun j hj => Nat.zero_le _) (Nat.zero_le _) rfl ⟨rfl, hbk.out⟩)
        rw [← hsn.out] at hL
        clear hown3 hg3 m0 m1 m2 m3 m4
        go_wp2
        go_roundw
        case rel => exact ⟨k + 1, by omega, by go_num, by rw [hLs.out], hL, hbw3⟩
        case measure => simp [intOf]; omega
      · have hbyS : byteS t x k = ⟨2, 0, x.block, x.off, k⟩ := by rw [byteS, if_neg (by omega), if_pos g]
        replace hbyS := hide hbyS
        go_upto_region 14 with (fail)
        have hlY := hide (hl.out.later (w' := (((((wx.setCell ⟨M, 0, none⟩ (.int .i64 2)).setCell ⟨M, 1, none⟩ (.int .u8 0)).setCell ⟨M, 2, none⟩ (.int .i64 x.block)).setCell ⟨M, 3, none⟩ (.int .i64 x.off)).setCell ⟨M, 4, none⟩ (.int .i64 k))) (((((hzx.out.setCell hM1.out _).setCell hM1.out _).setCell hM1.out _).setCell hM1.out _).setCell hM1.out _) (Nat.zero_le _))
        have hby : Below U.heap.size U ((((((wx.setCell ⟨M, 0, none⟩ (.int .i64 2)).setCell ⟨M, 1, none⟩ (.int .u8 0)).setCell ⟨M, 2, none⟩ (.int .i64 x.block)).setCell ⟨M, 3, none⟩ (.int .i64 x.off)).setCell ⟨M, 4, none⟩ (.int .i64 k))) := ((((hbx.setCell hM2 _).setCell hM2 _).setCell hM2 _).setCell hM2 _).setCell hM2 _
        have hrowY : ((((((wx.setCell ⟨M, 0, none⟩ (.int .i64 2)).setCell ⟨M, 1, none⟩ (.int .u8 0)).setCell ⟨M, 2, none⟩ (.int .i64 x.block)).setCell ⟨M, 3, none⟩ (.int .i64 x.off)).setCell ⟨M, 4, none⟩ (.int .i64 k))).heap[M]? = some (.cells #[.int .i64 (byteS t x k).kind, .int .u8 (byteS t x k).bits, .int .i64 (byteS t x k).block, .int .i64 (byteS t x k).off, .int .i64 (byteS t x k).i] 54 (0, 0)) := by rw [hbyS.out]; exact (set_five hvx)
        obtain ⟨wy, hwy⟩ : ∃ wy, wy = (((((wx.setCell ⟨M, 0, none⟩ (.int .i64 2)).setCell ⟨M, 1, none⟩ (.int .u8 0)).setCell ⟨M, 2, none⟩ (.int .i64 x.block)).setCell ⟨M, 3, none⟩ (.int .i64 x.off)).setCell ⟨M, 4, none⟩ (.int .i64 k)) := ⟨_, rfl⟩
        rw [← hwy] at hlY hby hrowY ⊢
        clear hwy hvx fz0 fz1 fz2 fz3 fz4 z0 z1 z2 z3 z4 hbx hzx
        obtain ⟨bb, hbb⟩ : ∃ bb, Hid (byteS t x k = bb) := ⟨_, hide rfl⟩
        rw [hbb.out] at hrowY
        have hby2 := hby.size
        obtain ⟨m0, m1, m2, m3, m4⟩ := Row.cells (l := [bb]) (k := 0) (b := bb) (by rw [Row, hrowY]; rfl) rfl
        simp only [Nat.zero_mul, Nat.zero_add] at m0 m1 m2 m3 m4
        have hsn : Hid (preB t x (k + 1) = preB t x k ++ [bb]) := hide (by rw [preB_snoc, hbb.out])
        have hbk : Hid (0 ≤ bb.bits ∧ bb.bits ≤ 255) := hide (by rw [← hbb.out]; exact byteS_ok t x k)
        clear hrowY
        obtain ⟨ess, hel, hown, hrep⟩ := hlY.out
        have hl0 := hown.lt
        rw [preB_len] at hel hown
        have hown2 := hide (hown.alloc (.cells #[.int .i64 bb.kind, .int .u8 bb.bits, .int .i64 bb.block, .int .i64 bb.off, .int .i64 bb.i] 54))
        replace hel := hide hel
        replace hrep := hide hrep
        replace hl0 := hide hl0
        clear hown
        go_wp2_with (at_builtin; refine wpList_append_own _ rfl (.tmp 50) (.tmp 52) _ rfl U.heap.size 54 i0 _ 5 40 Try.underlying48 hi0.out hz0.out hz1.out hz2.out rfl (by omega) u5 k _ rfl hown2.out ⟨wy.heap.size, 0, none⟩ 1 1 [.int .i64 bb.kind, .int .u8 bb.bits, .int .i64 bb.block, .int .i64 bb.off, .int .i64 bb.i] rfl rfl ?c1 ?c2 ?c3 ?c4 ?c5 ?_)
        case c1 => exact World.news_of_block (cs := #[.int .i64 bb.kind, .int .u8 bb.bits, .int .i64 bb.block, .int .i64 bb.off, .int .i64 bb.i]) (t := 54) (fr := (0, 0)) (heap_alloc_new wy _)
        case c2 => simp [Value.oneCell']
        case c3 => unfold maxLen; omega
        case c4 => omega
        case c5 => simp; omega
        intro v1 w3 hown3 hg3 _
        have hbw3 : Below U.heap.size U w3 := (hby.alloc hby2 _).grown hg3 (by simp; omega) (fun j hj => (hl0.out j hj).1)
        have hL := hide (Own.snoc (R := RByu) (n := 5) (y := bb) (ys := preB t x k) (B := 0) (by rw [preB_len]; exact hel.out) (fun i es y h1 h2 => ⟨(hrep.out i es y h1 h2).1, RByu.keep (hrep.out i es y h1 h2).2 (fun p hp => by omega) (Nat.le_refl _)⟩) (by rw [preB_len]; exact hown3) hg3 (fun j hj => Nat.zero_le _) (Nat.zero_le _) rfl ⟨rfl, hbk.out⟩)
        rw [← hsn.out] at hL
        clear hown3 hg3 m0 m1 m2 m3 m4
        go_wp2
        go_roundw
        case rel => exact ⟨k + 1, by omega, by go_num, by rw [hLs.out], hL, hbw3⟩
        case measure => simp [intOf]; omega
      · by_cases g65 : t = 65
        · have hbyS : byteS t x k = zb := by rw [byteS, if_neg (by omega), if_neg (by omega), if_neg (by omega)]
          replace hbyS := hide hbyS
          replace g65 : (t == 65) = true := beq_iff_eq.2 g65
          go_upto_region 14 with (fail)
          have hlY := hide (hl.out.later (w' := (wx.setCell ⟨M, 0, none⟩ (.int .i64 0))) (hzx.out.setCell hM1.out _) (Nat.zero_le _))
          have hby : Below U.heap.size U ((wx.setCell ⟨M, 0, none⟩ (.int .i64 0))) := hbx.setCell hM2 _
          have hrowY : ((wx.setCell ⟨M, 0, none⟩ (.int .i64 0))).heap[M]? = some (.cells #[.int .i64 (byteS t x k).kind, .int .u8 (byteS t x k).bits, .int .i64 (byteS t x k).block, .int .i64 (byteS t x k).off, .int .i64 (byteS t x k).i] 54 (0, 0)) := by rw [hbyS.out]; exact (set5_0 hvx)
          obtain ⟨wy, hwy⟩ : ∃ wy, wy = (wx.setCell ⟨M, 0, none⟩ (.int .i64 0)) := ⟨_, rfl⟩
          rw [← hwy] at hlY hby hrowY ⊢
          clear hwy hvx fz0 fz1 fz2 fz3 fz4 z0 z1 z2 z3 z4 hbx hzx
          obtain ⟨bb, hbb⟩ : ∃ bb, Hid (byteS t x k = bb) := ⟨_, hide rfl⟩
          rw [hbb.out] at hrowY
          have hby2 := hby.size
          obtain ⟨m0, m1, m2, m3, m4⟩ := Row.cells (l := [bb]) (k := 0) (b := bb) (by rw [Row, hrowY]; rfl) rfl
          simp only [Nat.zero_mul, Nat.zero_add] at m0 m1 m2 m3 m4
          have hsn : Hid (preB t x (k + 1) = preB t x k ++ [bb]) := hide (by rw [preB_snoc, hbb.out])
          have hbk : Hid (0 ≤ bb.bits ∧ bb.bits ≤ 255) := hide (by rw [← hbb.out]; exact byteS_ok t x k)
          clear hrowY
          obtain ⟨ess, hel, hown, hrep⟩ := hlY.out
          have hl0 := hown.lt
          rw [preB_len] at hel hown
          have hown2 := hide (hown.alloc (.cells #[.int .i64 bb.kind, .int .u8 bb.bits, .int .i64 bb.block, .int .i64 bb.off, .int .i64 bb.i] 54))
          replace hel := hide hel
          replace hrep := hide hrep
          replace hl0 := hide hl0
          clear hown
          go_wp2_with (at_builtin; refine wpList_append_own _ rfl (.tmp 50) (.tmp 52) _ rfl U.heap.size 54 i0 _ 5 40 Try.underlying48 hi0.out hz0.out hz1.out hz2.out rfl (by omega) u5 k _ rfl hown2.out ⟨wy.heap.size, 0, none⟩ 1 1 [.int .i64 bb.kind, .int .u8 bb.bits, .int .i64 bb.block, .int .i64 bb.off, .int .i64 bb.i] rfl rfl ?c1 ?c2 ?c3 ?c4 ?c5 ?_)
          case c1 => exact World.news_of_block (cs := #[.int .i64 bb.kind, .int .u8 bb.bits, .int .i64 bb.block, .int .i64 bb.off, .int .i64 bb.i]) (t := 54) (fr := (0, 0)) (heap_alloc_new wy _)
          case c2 => simp [Value.oneCell']
          case c3 => unfold maxLen; omega
          case c4 => omega
          case c5 => simp; omega
          intro v1 w3 hown3 hg3 _
          have hbw3 : Below U.heap.size U w3 := (hby.alloc hby2 _).grown hg3 (by simp; omega) (fun j hj => (hl0.out j hj).1)
          have hL := hide (Own.snoc (R := RByu) (n := 5) (y := bb) (ys := preB t x k) (B := 0) (by rw [preB_len]; exact hel.out) (fun i es y h1 h2 => ⟨(hrep.out i es y h1 h2).1, RByu.keep (hrep.out i es y h1 h2).2 (fun p hp => by omega) (Nat.le_refl _)⟩) (by rw [preB_len]; exact hown3) hg3 (fun j hj => Nat.zero_le _) (Nat.zero_le _) rfl ⟨rfl, hbk.out⟩)
          rw [← hsn.out] at hL
          clear hown3 hg3 m0 m1 m2 m3 m4
          go_wp2
          go_roundw
          case rel => exact ⟨k + 1, by omega, by go_num, by rw [hLs.out], hL, hbw3⟩
          case measure => simp [intOf]; omega
        · have hbyS : byteS t x k = ⟨3, 0, 0, 0, 0⟩ := by rw [byteS, if_neg (by omega), if_neg (by omega), if_pos ⟨g, g65⟩]
          replace hbyS := hide hbyS
          replace g65 : (t == 65) = false := beq_eq_false_iff_ne.2 g65
          go_upto_region 14 with (fail)
          have hlY := hide (hl.out.later (w' := wx) (hzx.out) (Nat.zero_le _))
          have hby : Below U.heap.size U (wx) := hbx
          have hrowY : (wx).heap[M]? = some (.cells #[.int .i64 (byteS t x k).kind, .int .u8 (byteS t x k).bits, .int .i64 (byteS t x k).block, .int .i64 (byteS t x k).off, .int .i64 (byteS t x k).i] 54 (0, 0)) := by rw [hbyS.out]; exact (by have := hvx; rw [g] at this; exact this)
          obtain ⟨wy, hwy⟩ : ∃ wy, wy = wx := ⟨_, rfl⟩
          rw [← hwy] at hlY hby hrowY ⊢
          clear hwy hvx fz0 fz1 fz2 fz3 fz4 z0 z1 z2 z3 z4 hbx hzx
          obtain ⟨bb, hbb⟩ : ∃ bb, Hid (byteS t x k = bb) := ⟨_, hide rfl⟩
          rw [hbb.out] at hrowY
          have hby2 := hby.size
          obtain ⟨m0, m1, m2, m3, m4⟩ := Row.cells (l := [bb]) (k := 0) (b := bb) (by rw [Row, hrowY]; rfl) rfl
          simp only [Nat.zero_mul, Nat.zero_add] at m0 m1 m2 m3 m4
          have hsn : Hid (preB t x (k + 1) = preB t x k ++ [bb]) := hide (by rw [preB_snoc, hbb.out])
          have hbk : Hid (0 ≤ bb.bits ∧ bb.bits ≤ 255) := hide (by rw [← hbb.out]; exact byteS_ok t x k)
          clear hrowY
          obtain ⟨ess, hel, hown, hrep⟩ := hlY.out
          have hl0 := hown.lt
          rw [preB_len] at hel hown
          have hown2 := hide (hown.alloc (.cells #[.int .i64 bb.kind, .int .u8 bb.bits, .int .i64 bb.block, .int .i64 bb.off, .int .i64 bb.i] 54))
          replace hel := hide hel
          replace hrep := hide hrep
          replace hl0 := hide hl0
          clear hown
          go_wp2_with (at_builtin; go_loud (refine wpList_append_own _ rfl (.tmp 50) (.tmp 52) _ rfl U.heap.size 54 i0 _ 5 40 Try.underlying48 hi0.out hz0.out hz1.out hz2.out rfl (by omega) u5 k _ rfl hown2.out ⟨wy.heap.size, 0, none⟩ 1 1 [.int .i64 bb.kind, .int .u8 bb.bits, .int .i64 bb.block, .int .i64 bb.off, .int .i64 bb.i] rfl rfl ?c1 ?c2 ?c3 ?c4 ?c5 ?_))
          case c1 => exact World.news_of_block (cs := #[.int .i64 bb.kind, .int .u8 bb.bits, .int .i64 bb.block, .int .i64 bb.off, .int .i64 bb.i]) (t := 54) (fr := (0, 0)) (heap_alloc_new wy _)
          case c2 => simp [Value.oneCell']
          case c3 => unfold maxLen; omega
          case c4 => omega
          case c5 => simp; omega
          intro v1 w3 hown3 hg3 _
          have hbw3 : Below U.heap.size U w3 := (hby.alloc hby2 _).grown hg3 (by simp; omega) (fun j hj => (hl0.out j hj).1)
          have hL := hide (Own.snoc (R := RByu) (n := 5) (y := bb) (ys := preB t x k) (B := 0) (by rw [preB_len]; exact hel.out) (fun i es y h1 h2 => ⟨(hrep.out i es y h1 h2).1, RByu.keep (hrep.out i es y h1 h2).2 (fun p hp => by omega) (Nat.le_refl _)⟩) (by rw [preB_len]; exact hown3) hg3 (fun j hj => Nat.zero_le _) (Nat.zero_le _) rfl ⟨rfl, hbk.out⟩)
          rw [← hsn.out] at hL
          clear hown3 hg3 m0 m1 m2 m3 m4
          go_wp2
          go_roundw
          case rel => exact ⟨k + 1, by omega, by go_num, by rw [hLs.out], hL, hbw3⟩
          case measure => simp [intOf]; omega
    · go_wp2_with (go_at_call 71; refine (cC.out _).mono ?_; rintro e w' ⟨rfl, rfl⟩)
      go_ret
      obtain rfl : k = n := by omega
      refine ⟨_, rfl, ?_, hb2.out.trans (hbel.mono hb2.out.size)⟩
      have h := hl.out.lower hb2.out.size
      rw [← hx.out, ← hn.out] at h
      exact h
end Go.Proofs.Ytgkgmeofilkopaa
