/- latheref02.Fresh. No condition. -/
import Derived.Test.YtamjcafjdioidaaIrW
namespace Go.Proofs.Ytamjcafjdioidaa
open Go.RowKit

theorem namesL_take {l : List Ins} {m : Nat} {x : Ins} (h : l[m]? = some x) (r : Int) : namesL (l.take (m + 1)) r = (namesL (l.take m) r || names x r) := by rw [take_snoc h, namesL_snoc]
theorem namesL_take_true {l : List Ins} {m : Nat} {r : Int} (h : namesL (l.take m) r = true) : namesL l r = true := by
  unfold namesL at *
  obtain ⟨x, hx, hn⟩ := List.any_eq_true.1 h
  exact List.any_eq_true.2 ⟨x, List.mem_of_mem_take hx, hn⟩

set_option maxHeartbeats 1600000 in
theorem rfresh_any (f : Fun) (F : Nat) (c1 c2 : Value) (w : World) (B : Nat) (hB : B ≤ w.heap.size) (hp : RInts.rep w B [c1] f.params) (hb : RBlks.rep w B [c2] f.blocks) (hsz : partsL f.blocks.flatten ≤ 1000000000000)
    (hF : IsFresh f.blocks.flatten f.params.length F) (hF2 : F ≤ 2000000000000) :
    Calls Try.prog 14 #[f.v c1 c2] w fun e w' => e = .returned (.int .i64 F) ∧ Below w.heap.size w w' := by
  obtain ⟨A1, k1, h1, hm1, -⟩ := Rp.slice1_at hp
  obtain ⟨A2, k2, h2, hm2, -⟩ := Rp.slice1_at hb
  cases h1; cases h2
  have hfl := length_le_partsL f.blocks.flatten
  have hF0 := hF.1
  replace hF := hide hF
  replace hp := hide hp
  replace hb := hide hb
  obtain ⟨W, hW, hwW, hWs, hx⟩ := boxes1 w #[.string f.name, .slice A1 f.params.length k1, .int .i64 f.ret, .slice A2 f.blocks.length k2] 32
  have x0 := hx 0 _ rfl
  have x1 := hx 1 _ rfl
  have x2 := hx 2 _ rfl
  have x3 := hx 3 _ rfl
  clear hx
  have hself := Below.refl W.heap.size W
  have hws : w.heap.size ≤ W.heap.size := by omega
  replace hWs := hide hWs
  go_enter Try.func14, Try.ntmps14
  go_wp2_with fail
  clear hW
  refine (code_any f _ _ W w.heap.size hws (RInts.later hp.out (hwW.mono hB) hB) (RBlks.later hb.out (hwW.mono hB) hB) (by omega)).mono ?_
  rintro e V ⟨v1, v2, rfl, bV, hl, hpl⟩
  have hl' := hide hl
  obtain ⟨A3, k3, h3, hm3, gl⟩ := Rp.slice_open hl
  obtain ⟨A4, k4, h4, -, -⟩ := Rp.slice_open hpl
  cases h3; cases h4
  replace gl := hide gl
  clear hl hpl x0 x2 x3
  obtain ⟨l, hll⟩ : ∃ l : List Ins, Hid (l = f.blocks.flatten) := ⟨_, hide rfl⟩
  rw [← hll.out] at gl hfl hsz hm3 hF ⊢
  clear hl'
  go_wp2
  go_loopw [5] (fun n wr => ∃ k : Nat, f.params.length ≤ k ∧ k ≤ F ∧ n = .int .i64 k ∧ Below V.heap.size V wr) (fun n _ => F - (intOf n).toNat)
  case atStart => exact ⟨f.params.length, Nat.le_refl _, hF0, rfl, Below.refl _ _⟩
  case round =>
    obtain ⟨k, hk0, hk, rfl, hbel⟩ := hrel
    go_wp2
    go_loopw [6, 7] (fun fr i wr => ∃ (m : Nat) (b : Bool), m ≤ l.length ∧ i = .int .i64 m ∧ fr = .bool b ∧ Hid (namesL (l.take m) k = !b) ∧ Below V.heap.size V wr) (fun _ i _ => l.length - (intOf i).toNat)
    case atStart => exact ⟨0, true, Nat.zero_le _, rfl, rfl, hide rfl, hbel⟩
    case round =>
      clear hbel
      obtain ⟨m, b, hm, rfl, rfl, hn, hbel⟩ := hrel
      cases b with
      | false =>
        have hkF : k < F := by
          have h1 := namesL_take_true (l := l) (m := m) (r := (k : Int)) (by rw [hn.out]; rfl)
          rcases Nat.lt_or_ge k F with h | h
          · exact h
          · have e : k = F := by omega
            rw [e, hF.out.2.1] at h1
            cases h1
        by_cases hlt : m < l.length
        all_goals go_wp2
        all_goals go_roundw
        all_goals (first | (case rel => exact ⟨k + 1, by omega, hkF, by go_num, hbel⟩) | skip)
        all_goals (case measure => simp [intOf]; omega)
      | true =>
        by_cases hlt : m < l.length
        · obtain ⟨b1, o1, rfl, he1⟩ := gl.out (by omega)
          obtain ⟨ins, hins⟩ := get_ex hlt
          obtain ⟨_, _, ⟨a1, a2, rfl, ha, hto, hwf⟩, hc⟩ := he1 m ins hins.out
          have hri : Hid (RIns.rep V V.heap.size [.int .i64 ins.op, .int .i64 ins.reg, .int .i64 ins.ty, .int .i64 ins.num, .int .i64 ins.flags, a1, a2] ins) := hide ⟨a1, a2, rfl, ha, hto, hwf⟩
          obtain ⟨q0, q1, q2, q3, q4, q5, q6⟩ := hc.seven
          obtain ⟨A5, k5, h5, -, -⟩ := Rp.slice_open ha
          obtain ⟨A6, k6, h6, -, -⟩ := Rp.slice1_open hto
          cases h5; cases h6
          clear he1 hc ha hto hwf
          go_wp2_with (go_at_call 31; refine (names_any ins k _ _ _ V.heap.size hbel.size (RIns.later hri.out hbel (Nat.le_refl _))).mono ?_; rintro e w4 ⟨rfl, hcall⟩; have hbel4 := below_next hbel (Nat.le_refl _) hcall)
          go_roundw
          case rel => exact ⟨m + 1, !names ins k, hlt, by go_num, rfl, hide (by rw [namesL_take hins.out, hn.out]; simp), hbel4⟩
          case measure => simp [intOf]; omega
        · have hkF : k = F := by
            have h1 := hn.out
            rw [List.take_of_length_le (by omega)] at h1
            rcases Nat.lt_or_ge k F with h | h
            · rw [hF.out.2.2 k hk0 h] at h1; cases h1
            · omega
          subst hkF
          go_wp2
          go_ret
          exact ⟨rfl, hwW.trans ((bV.mono hws).trans (hbel.mono (Nat.le_trans hws bV.size)))⟩
end Go.Proofs.Ytamjcafjdioidaa
