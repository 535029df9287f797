/- lathelaw06.Long: just which bool. No condition but a bound on the function's size. -/
import Derived.Test.YtkhlnopbgngjbaaGrN
import Derived.Test.YtkhlnopbgngjbaaIrKf
namespace Go.Proofs.Ytkhlnopbgngjbaa
open Go.RowKit
set_option linter.unusedSimpArgs false
set_option linter.unusedVariables false

def longF (f : Fun) : Bool := decide (80 < f.blocks.length) || decide (5000 < totN f)
set_option maxRecDepth 100000 in
set_option maxHeartbeats 3200000 in
theorem longf_any (f : Fun) (c1 c2 : Value) (w : World) (B : Nat) (hB : B ≤ w.heap.size) (hf : RFun.rep w B [.string f.name, c1, .int .i64 f.ret, c2] f) (hsz : funSz f ≤ 2000000) :
    Calls Try.prog 61 #[f.v c1 c2] w (RetB (longF f) w) := by
  obtain ⟨hp, hb⟩ := fun_open (RFun.later hf (Below.refl _ _) hB)
  obtain ⟨A1, k1, h1, -, -⟩ := Rp.slice1_open hp
  obtain ⟨A2, k2, h2, hm2, -⟩ := Rp.slice1_open hb
  cases h1; cases h2
  clear hp hb
  obtain ⟨W, hW, hwW, hWs, hx⟩ := boxes1 w #[.string f.name, .slice A1 f.params.length k1, .int .i64 f.ret, .slice A2 f.blocks.length k2] 25
  have q0 : ∀ w', Below W.heap.size W w' → w'.cell? ⟨w.heap.size, 0, none⟩ = some (.string f.name) := hx 0 _ rfl
  have q1 : ∀ w', Below W.heap.size W w' → w'.cell? ⟨w.heap.size, 1, none⟩ = some (.slice A1 f.params.length k1) := hx 1 _ rfl
  have q2 : ∀ w', Below W.heap.size W w' → w'.cell? ⟨w.heap.size, 2, none⟩ = some (.int .i64 f.ret) := hx 2 _ rfl
  have q3 : ∀ w', Below W.heap.size W w' → w'.cell? ⟨w.heap.size, 3, none⟩ = some (.slice A2 f.blocks.length k2) := hx 3 _ rfl
  clear hx
  have hws : w.heap.size ≤ W.heap.size := by omega
  replace hWs := hide hWs
  have hself := Below.refl W.heap.size W
  have hfW := RFun.later hf (hwW.mono hB) (Nat.le_trans hB hwW.size)
  by_cases hlt : f.blocks.length > 80
  · have hgt : (f.blocks.length : Int) > 80 := by omega
    have hv : Hid (longF f = true) := hide (by unfold longF; simp [show 80 < f.blocks.length from hlt])
    replace hlt := hide hlt
    replace hf := hide hf
    replace hfW := hide hfW
    go_enter Try.func61, Try.ntmps61
    go_wp2
    go_ret
    exact ⟨ret_bool hv.out.symm, hwW⟩
  · have hgt : ¬ (f.blocks.length : Int) > 80 := by omega
    have c9 := few1_any f 5000 (.slice (some ⟨W.heap.size, 0, none⟩) 1 1) _ _ (Nat.le_refl _) (one_fun (Nat.le_refl _) hfW) (by have := totN_le (f := f); omega)
    obtain ⟨d, hd⟩ : ∃ d, Hid (d = decide ((totN f : Int) ≤ 5000)) := ⟨_, hide rfl⟩
    rw [← hd.out] at c9
    have hv : Hid (longF f = !d) := hide (by
      unfold longF
      rw [hd.out, show decide (80 < f.blocks.length) = false from decide_eq_false hlt, Bool.false_or, ← decide_not]
      rw [Bool.eq_iff_iff, decide_eq_true_eq, decide_eq_true_eq]; omega)
    replace c9 := hide c9
    replace hlt := hide hlt
    replace hf := hide hf
    replace hfW := hide hfW
    go_enter Try.func61, Try.ntmps61
    go_wp2_with (fail)
    refine c9.out.mono ?_
    rintro e w9 ⟨rfl, hb9⟩
    have hb := hwW.trans ((bstep hb9).mono hws)
    go_wp2
    go_ret
    exact ⟨ret_bool hv.out.symm, hb⟩
end Go.Proofs.Ytkhlnopbgngjbaa
