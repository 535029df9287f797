/- ir.Fresh. No condition. -/
import Derived.Test.YtaljdbmmjgmbbaaIrD
namespace Go.Proofs.Ytaljdbmmjgmbbaa
open Go.RowKit

set_option maxHeartbeats 800000 in
theorem fresh_any (f : Fun) (F : Nat) (c1 c2 : Value) (w : World) (B : Nat) (hB : B ≤ w.heap.size) (hp : RInts.rep w B [c1] f.params) (hb : RBlks.rep w B [c2] f.blocks) (hsz : partsL f.blocks.flatten ≤ 1000000000000)
    (hF : IsFresh f.blocks.flatten f.params.length F) (hF2 : F ≤ 2000000000000) :
    Calls Try.prog 59 #[f.v c1 c2] w fun e w' => e = .returned (.int .i64 F) ∧ Below w.heap.size w w' := by
  obtain ⟨A1, k1, h1, hm1, _⟩ := Rp.slice1_at hp
  obtain ⟨A2, k2, h2, hm2, _⟩ := Rp.slice1_at hb
  cases h1; cases h2
  replace hp := hide hp
  replace hb := hide hb
  replace hF := hide hF
  have hmm := @run_makeMap Try.prog
  go_enter Try.func59, Try.ntmps59
  go_wp2_with fail
  have s1 : (w.alloc (.cells #[.string f.name, .slice A1 f.params.length k1, .int .i64 f.ret, .slice A2 f.blocks.length k2] 25)).heap.size = w.heap.size + 1 := by simp
  have s2 : ((w.alloc (.cells #[.string f.name, .slice A1 f.params.length k1, .int .i64 f.ret, .slice A2 f.blocks.length k2] 25)).alloc (.map #[] 0)).heap.size = w.heap.size + 1 + 1 := by simp
  have s3 : (((w.alloc (.cells #[.string f.name, .slice A1 f.params.length k1, .int .i64 f.ret, .slice A2 f.blocks.length k2] 25)).alloc (.map #[] 0)).alloc (.cells #[.map (some (w.heap.size + 1))] 82)).heap.size = w.heap.size + 1 + 1 + 1 := by simp
  have hwW : Below w.heap.size w (((w.alloc (.cells #[.string f.name, .slice A1 f.params.length k1, .int .i64 f.ret, .slice A2 f.blocks.length k2] 25)).alloc (.map #[] 0)).alloc (.cells #[.map (some (w.heap.size + 1))] 82)) :=
    (((Below.refl _ _).alloc (Nat.le_refl _) _).alloc (by rw [s1]; omega) _).alloc (by rw [s2]; omega) _
  have hV : (((w.alloc (.cells #[.string f.name, .slice A1 f.params.length k1, .int .i64 f.ret, .slice A2 f.blocks.length k2] 25)).alloc (.map #[] 0)).alloc (.cells #[.map (some (w.heap.size + 1))] 82)).heap[w.heap.size + 1 + 1]? = some (.cells #[.map (some (w.heap.size + 1))] 82 (0, 0)) := by
    rw [← s2]; exact box_top _ _
  have hFb : (((w.alloc (.cells #[.string f.name, .slice A1 f.params.length k1, .int .i64 f.ret, .slice A2 f.blocks.length k2] 25)).alloc (.map #[] 0)).alloc (.cells #[.map (some (w.heap.size + 1))] 82)).heap[w.heap.size]? = some (.cells #[.string f.name, .slice A1 f.params.length k1, .int .i64 f.ret, .slice A2 f.blocks.length k2] 25) :=
    one_alloc (one_alloc (box_top _ _) _) _
  have hM : MSet (((w.alloc (.cells #[.string f.name, .slice A1 f.params.length k1, .int .i64 f.ret, .slice A2 f.blocks.length k2] 25)).alloc (.map #[] 0)).alloc (.cells #[.map (some (w.heap.size + 1))] 82)) (w.heap.size + 1) 0 (fun _ => false) := by
    have := (MSet.made (w.alloc (.cells #[.string f.name, .slice A1 f.params.length k1, .int .i64 f.ret, .slice A2 f.blocks.length k2] 25))).alloc (.cells #[.map (some (w.heap.size + 1))] 82)
    rw [s1] at this
    exact this
  obtain ⟨W, hW⟩ : ∃ W, ((w.alloc (.cells #[.string f.name, .slice A1 f.params.length k1, .int .i64 f.ret, .slice A2 f.blocks.length k2] 25)).alloc (.map #[] 0)).alloc (.cells #[.map (some (w.heap.size + 1))] 82) = W := ⟨_, rfl⟩
  rw [hW]
  rw [hW] at s3 hwW hV hFb hM
  clear hW s1 s2
  have hsz2 : w.heap.size ≤ W.heap.size := by omega
  have hcall := each_Fresh f _ _ (.pointer (some ⟨w.heap.size + 1 + 1, 0, none⟩)) (Is (w.heap.size + 1))
    (fun i j w1 => MSet w1 (w.heap.size + 1) (partsL (before f.blocks i j)) (namesL (before f.blocks i j))) (fun _ => False) W w.heap.size hsz2 (fun k hk => by rw [hk]; omega)
    (RInts.later hp.out (hwW.mono hB) hB) (RBlks.later hb.out (hwW.mono hB) hB) (fun o => by rw [before_zero]; exact (hM.alloc o).congr (fun r => rfl)) (fun i x w1 hx h => by rw [← before_next hx]; exact h)
    (fun i j x ins b o es w1 hx hi hw1 hb1 hes hri hat hinv => by
      have hs1 := hw1.size
      have hlen := partsL_before hx hi
      refine (fresh_step i j ins (namesL (before f.blocks i j)) (partsL (before f.blocks i j)) b o (w.heap.size + 1 + 1) (w.heap.size + 1) es w1 w.heap.size (by omega) (by omega) (by omega) (by omega) hb1 hri hat
        ((hw1.cell (p := ⟨w.heap.size + 1 + 1, 0, none⟩) (by show w.heap.size + 1 + 1 < _; omega) (by show ¬ (w.heap.size + 1 + 1 = w.heap.size + 1); omega)).trans (one_cell hV)) hinv (by omega)).mono ?_
      rintro e w2 ⟨rfl, h1, h2⟩
      refine ⟨true, rfl, h1.more (fun k hk hs => ⟨hs, by rw [hs]; omega⟩), fun _ => ?_, fun h => by cases h⟩
      rw [before_step hx hi, partsL_append, show namesL (before f.blocks i j ++ [ins]) = fun r => namesL (before f.blocks i j) r || names ins r from funext fun r => namesL_snoc _ _ _]
      exact h2.mono (by simp [partsL]; omega))
  replace hcall := hide hcall
  clear hmm
  refine hcall.out.mono ?_
  rintro e w1 ⟨rfl, hw1, h1 | h1⟩
  · rw [before_end] at h1
    have hb1 : Below w.heap.size w w1 := hwW.trans (hw1.to_below (fun k hk => by rw [hk]; omega) hsz2)
    have hc1 : w1.cell? ⟨w.heap.size + 1 + 1, 0, none⟩ = some (.map (some (w.heap.size + 1))) :=
      (hw1.cell (p := ⟨w.heap.size + 1 + 1, 0, none⟩) (by show w.heap.size + 1 + 1 < _; omega) (by show ¬ (w.heap.size + 1 + 1 = w.heap.size + 1); omega)).trans (one_cell hV)
    have hc2 : w1.cell? ⟨w.heap.size, 1, none⟩ = some (.slice A1 f.params.length k1) :=
      (hw1.cell (p := ⟨w.heap.size, 1, none⟩) (by show w.heap.size < _; omega) (by show ¬ (w.heap.size = w.heap.size + 1); omega)).trans (by simp [World.cell?, hFb])
    replace h1 := hide h1
    replace hV := hide hV
    replace hFb := hide hFb
    replace s3 := hide s3
    replace hM := hide hM
    clear hcall hw1
    have hF0 := hF.out.1
    go_wp2
    go_loop [4] (fun i => ∃ k : Nat, f.params.length ≤ k ∧ k ≤ F ∧ i = .int .i64 k) (fun i => F - (intOf i).toNat)
    case atStart => exact ⟨f.params.length, Nat.le_refl _, hF0, rfl⟩
    case round =>
      obtain ⟨k, hk0, hk, rfl⟩ := hrel
      have hrun := h1.out.look (r := (k : Int)) (by simp [Lit.wf, IntKind.min, IntKind.max, IntKind.signed, IntKind.bits]; omega)
      by_cases hlt : k < F
      · rw [hF.out.2.2 k hk0 hlt] at hrun
        simp only [if_true] at hrun
        go_wp2
        go_round
        case rel => exact ⟨k + 1, by omega, hlt, by go_num⟩
        case measure => simp [intOf]; omega
      · obtain rfl : k = F := by omega
        rw [hF.out.2.1] at hrun
        simp only [Bool.false_eq_true, if_false] at hrun
        go_wp2
        go_ret
        exact ⟨rfl, hb1⟩
  · exact h1.elim
end Go.Proofs.Ytaljdbmmjgmbbaa
