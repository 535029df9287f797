/- latheref02.Callee, ir.Callee and slices.Clone. No condition but sizes. -/
import Derived.Test.YtamjcafjdioidaaIrX
import Derived.Test.YtamjcafjdioidaaIrY
import Derived.Lib.SliceRun
import Derived.Deep.RegionHeld3
namespace Go.Proofs.Ytamjcafjdioidaa
open Go.RowKit
set_option linter.unusedSimpArgs false
set_option linter.unusedVariables false

theorem xor_not (k : Nat) (h : k < 9223372036854775808) : bits BinOp.xor IntKind.i64 (-1) (-1 - (k : Int)) = (k : Int) := by
  have ha : BitVec.ofInt 64 (-1) = BitVec.allOnes 64 := by decide
  have hb : BitVec.ofInt 64 (-1 - (k : Int)) = ~~~ (BitVec.ofNat 64 k) := by
    apply BitVec.eq_of_toNat_eq
    rw [BitVec.toNat_ofInt, BitVec.toNat_not, BitVec.toNat_ofNat]
    omega
  unfold bits
  show IntKind.i64.wrap (((BitVec.ofInt 64 (-1) ^^^ BitVec.ofInt 64 (-1 - (k : Int))).toNat : Nat) : Int) = (k : Int)
  rw [ha, hb, BitVec.allOnes_xor, BitVec.not_not, BitVec.toNat_ofNat]
  rw [Nat.mod_eq_of_lt (show k < 2 ^ 64 by omega)]
  have h2 : wrap64 (k : Int) = (k : Int) := by unfold wrap64; omega
  first | exact h2 | (simp [go_sem] at h2 ⊢; omega) | (simp [IntKind.wrap, IntKind.bits, IntKind.signed]; omega)
/-- what a call calls -/
def calleeS (m : Mod) (n : Int) : List Int × Int × Bool :=
  if 0 ≤ n then (match m.funcs[n.toNat]? with
    | some f => (f.params, f.ret, true)
    | none => ([], 0, false))
  else (match m.exts[(-1 - n).toNat]? with
    | some x => (x.params, x.ret, true)
    | none => ([], 0, false))
def ClonePost (l : List Int) (w : World) (e : Ending) (w' : World) : Prop := ∃ v, e = .returned v ∧ OwnI w' w.heap.size v l ∧ Below w.heap.size w w'
set_option maxRecDepth 100000 in
theorem clone_ints (v : Value) (l : List Int) (w : World) (hr : RInts.rep w w.heap.size [v] l) (hl : l.length ≤ 2000000) :
    Calls Try.prog 52 #[v] w (ClonePost l w) := by
  obtain ⟨A, cap, hv, hl9, -⟩ := Rp.slice1_open hr
  cases hv
  obtain ⟨-, hn, hok, hs⟩ := ints_src hr
  obtain ⟨n, hnl⟩ : ∃ n, Hid (n = l.length) := ⟨_, hide rfl⟩
  rw [← hnl.out] at hl hn ⊢
  obtain ⟨i0, hi0, hz0, hz1, hz2⟩ := cinfo_parts cinfo_int
  replace hi0 := hide hi0
  replace hz0 := hide hz0
  replace hz1 := hide hz1
  replace hz2 := hide hz2
  replace hok := hide hok
  replace hn := hide hn
  have hb0 := (Below.refl w.heap.size w).alloc (Nat.le_refl _) (.cells #[] 3)
  have hsrc := hide (hs _ hb0)
  have hown0 := hide (World.ownsRow_lit (base := w.heap.size) (e := 3) (size := 1) w #[] 0 (Nat.le_refl _) (Nat.zero_le _) rfl)
  replace hb0 := hide hb0
  clear hs hr
  cases A with
  | none =>
    have hl0 : l = [] := List.eq_nil_of_length_eq_zero (by have := hn.out rfl; have := hnl.out; omega)
    have hnil : ∀ w' : World, (binOp .eql 29 (.slice none n cap) (.slice none 0 0)).run Try.prog w' = .ok (.bool true) w' := fun w' => Lib.run_eql_slice_nil w' _ _ _ _ _ _ _ Try.underlying29
    replace hl0 := hide hl0
    go_enter Try.func52, Try.ntmps52
    go_wp2
    go_ret
    exact ⟨_, rfl, by rw [hl0.out]; exact OwnI.nil_, Below.refl _ _⟩
  | some ad =>
    have hnil : ∀ w' : World, (binOp .eql 29 (.slice (some ad) n cap) (.slice none 0 0)).run Try.prog w' = .ok (.bool false) w' := fun w' => Lib.run_eql_slice_nil w' _ _ _ _ _ _ _ Try.underlying29
    go_enter Try.func52, Try.ntmps52
    go_wp2_with (at_builtin; refine wpList_append_any _ rfl (.tmp 5) (.tmp 6) _ rfl w.heap.size 3 i0 _ 1 8 Try.underlying29 hi0.out hz0.out hz1.out hz2.out rfl (by omega) (.slice (some ⟨w.heap.size, 0, none⟩) 0 0) 0 [] rfl hown0.out (some ad) n cap (l.map fun z => Value.int .i64 z) rfl (by rw [List.length_map, ← hnl.out]; omega) (fun e => by cases e) hsrc.out (ints_one _) (by unfold maxLen; omega) (by omega) (by simp) ?_; intro v1 Y hownY hgY; replace hownY := hide hownY; replace hgY := hide hgY)
    go_wp2
    go_ret
    refine ⟨v1, rfl, ⟨?_, hok.out⟩, hb0.out.grown hgY.out (by simp) (fun k hk => by simp [Value.ownBlock] at hk; omega)⟩
    have := hownY.out
    rw [Nat.zero_add, List.nil_append, hnl.out] at this
    exact this
def RCalleePost (m : Mod) (n : Int) (B : Nat) (w : World) (e : Ending) (w' : World) : Prop := ∃ v, e = .returned (.tuple #[v, .int .i64 (calleeS m n).2.1, .bool (calleeS m n).2.2]) ∧ RInts.rep w' B [v] (calleeS m n).1 ∧ Below w.heap.size w w'
def CalleePost (m : Mod) (n : Int) (w : World) (e : Ending) (w' : World) : Prop := ∃ v, e = .returned (.tuple #[v, .int .i64 (calleeS m n).2.1, .bool (calleeS m n).2.2]) ∧ OwnI w' w.heap.size v (calleeS m n).1 ∧ Below w.heap.size w w'
set_option maxRecDepth 100000 in
set_option maxHeartbeats 6400000 in
theorem rcallee_any (m : Mod) (n : Int) (c1 d1 e1 : Value) (w : World) (B : Nat) (hB : B ≤ w.heap.size) (ha : RMod.rep w B [c1, d1, e1] m) (hn : -9223372036854775808 ≤ n ∧ n ≤ 9223372036854775807) :
    Calls Try.prog 97 #[m.v c1 d1 e1, .int .i64 n] w (RCalleePost m n B w) := by
  obtain ⟨-, hax, haf⟩ := mod_open ha
  obtain ⟨A3, k3, rfl, hl3, gx⟩ := exts_at hax
  obtain ⟨A5, k5, rfl, hl5, gf⟩ := funs_at haf
  clear ha hax haf
  obtain ⟨n3, hn3⟩ : ∃ n, Hid (n = m.exts.length) := ⟨_, hide rfl⟩
  obtain ⟨n5, hn5⟩ : ∃ n, Hid (n = m.funcs.length) := ⟨_, hide rfl⟩
  rw [← hn3.out] at hl3 ⊢
  rw [← hn5.out] at hl5 ⊢
  obtain ⟨W, hW, hwW, hWs, hx⟩ := boxes1 w #[c1, .slice A3 n3 k3, .slice A5 n5 k5] 26
  have x1 := hx 1 _ rfl
  have x2 := hx 2 _ rfl
  clear hx
  have hws : w.heap.size ≤ W.heap.size := by omega
  replace hWs := hide hWs
  replace gx := hide gx
  replace gf := hide gf
  have hself := Below.refl W.heap.size W
  replace hW := hide hW
  replace hwW := hide hwW
  by_cases h0 : 0 ≤ n
  · obtain ⟨k, rfl⟩ := Int.eq_ofNat_of_zero_le h0
    by_cases hlt : k < n5
    · obtain ⟨f, hf⟩ := get_ex (l := m.funcs) (k := k) (by rw [← hn5.out]; exact hlt)
      have hcs : Hid (calleeS m k = (f.params, f.ret, true)) := hide (by unfold calleeS; rw [if_pos h0, Int.toNat_natCast, hf.out])
      obtain ⟨q, o, rfl, he⟩ := gf.out (by rw [← hn5.out]; omega)
      obtain ⟨ca, ea, hra, hc⟩ := he k f hf.out
      obtain ⟨a0, a1, a2, a3⟩ := (hc.later (hwW.out.mono hB) (Nat.le_trans hB hws)).four
      have hrp := hide (fun_open hra).1
      clear he hc hra
      go_enter Try.func97, Try.ntmps97
      go_upto_region 1 with (fail)
      rw [hW.out]
      clear hW
      go_wp2_with fail
      go_quiet (fail)
      go_wp2
      go_ret3
      have hb9 := fun q => hwW.out.trans ((below_drewN hself q).mono hws)
      exact ⟨ca, by rw [hcs.out]; rfl, by rw [hcs.out]; exact RInts.below hrp.out ((hb9 _).mono hB), hb9 _⟩
    · have hcs : Hid (calleeS m k = ([], 0, false)) := hide (by unfold calleeS; rw [if_pos h0, Int.toNat_natCast, List.getElem?_eq_none (by rw [← hn5.out]; omega)])
      have hk2 : ¬ ((k : Int) < (n5 : Int)) := by omega
      have hk3 : ¬ ((k : Int) < 0) := by omega
      go_enter Try.func97, Try.ntmps97
      go_upto_region 1 with (fail)
      rw [hW.out]
      clear hW
      go_wp2
      go_ret3
      exact ⟨_, by rw [hcs.out]; rfl, by rw [hcs.out]; exact Rp.nil_rep, hwW.out⟩
  · obtain ⟨k, hk⟩ : ∃ k : Nat, n = -1 - (k : Int) := ⟨(-1 - n).toNat, by omega⟩
    subst hk
    have e3 : (-1 - (k : Int) ≥ 0) = False := by simp; omega
    have e4 : (-1 - (k : Int)) < 0 := by omega
    have e5 : -1 - (-1 - (k : Int)) = (k : Int) := by omega
    by_cases hlt : k < n3
    · obtain ⟨f, hf⟩ := get_ex (l := m.exts) (k := k) (by rw [← hn3.out]; exact hlt)
      have hcs : Hid (calleeS m (-1 - (k : Int)) = (f.params, f.ret, true)) := hide (by unfold calleeS; rw [if_neg h0, show (-1 - (-1 - (k : Int))).toNat = k by omega, hf.out])
      obtain ⟨q, o, rfl, he⟩ := gx.out (by rw [← hn3.out]; omega)
      obtain ⟨ca, hra, -, hc⟩ := he k f hf.out
      obtain ⟨a0, a1, a2⟩ := (hc.later (hwW.out.mono hB) (Nat.le_trans hB hws)).three
      replace hra := hide hra
      clear he hc
      have e6 : -(n3 : Int) ≤ -1 - (k : Int) := by omega
      go_enter Try.func97, Try.ntmps97
      go_upto_region 1 with (fail)
      rw [hW.out]
      clear hW
      go_wp2_with fail
      go_quiet (fail)
      go_wp2
      go_ret3
      have hb9 := fun q => hwW.out.trans ((below_drewN hself q).mono hws)
      exact ⟨ca, by rw [hcs.out]; rfl, by rw [hcs.out]; exact RInts.below hra.out ((hb9 _).mono hB), hb9 _⟩
    · have hcs : Hid (calleeS m (-1 - (k : Int)) = ([], 0, false)) := hide (by unfold calleeS; rw [if_neg h0, show (-1 - (-1 - (k : Int))).toNat = k by omega, List.getElem?_eq_none (by rw [← hn3.out]; omega)])
      have e6 : ¬ (-(n3 : Int) ≤ -1 - (k : Int)) := by omega
      go_enter Try.func97, Try.ntmps97
      go_upto_region 1 with (fail)
      rw [hW.out]
      clear hW
      go_wp2
      go_ret3
      exact ⟨_, by rw [hcs.out]; rfl, by rw [hcs.out]; exact Rp.nil_rep, hwW.out⟩
end Go.Proofs.Ytamjcafjdioidaa
