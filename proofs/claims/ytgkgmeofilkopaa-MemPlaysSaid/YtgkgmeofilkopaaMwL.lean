/- Layer 9: the laws' fixed facts, walked. No condition. -/
import Derived.Test.YtgkgmeofilkopaaMwK
import Derived.Test.YtgkgmeofilkopaaMwI
namespace Go.Proofs.Ytgkgmeofilkopaa
open Go.RowKit
set_option linter.unusedSimpArgs false
set_option linter.unusedVariables false

abbrev bs4 : MemS := [some [oneB, oneB, oneB, ⟨1, 7, 0, 0, 0⟩]]
theorem new_4 : newS [4] = [some [oneB, oneB, oneB, oneB]] := by decide +kernel
theorem store_4 : storeS (newS [4]) 8 ⟨1, 7, 0, 0⟩ ⟨2, 0, 0, 3⟩ = (bs4, true) := by decide +kernel
theorem load_4 : loadS bs4 32 ⟨2, 0, 0, 0⟩ = (⟨1, 117440512, 0, 0⟩, true) := by decide +kernel
theorem unpack_12 : unpackS 12 [⟨1, 255, 0, 0, 0⟩, ⟨1, 255, 0, 0, 0⟩] = ⟨1, 4095, 0, 0⟩ := by decide +kernel
theorem unpack_two (W : World) (q : Nat) (h : W.heap[q]? = some (.cells #[.int .i64 1, .int .u8 255, .int .i64 0, .int .i64 0, .int .i64 0, .int .i64 1, .int .u8 255, .int .i64 0, .int .i64 0, .int .i64 0] 54 (0, 0))) :
    Calls Try.prog 34 #[.int .i64 12, .slice (some ⟨q, 0, none⟩) 2 2] W fun e w' => e = .returned (vv ⟨1, 4095, 0, 0⟩) ∧ Below W.heap.size W w' := by
  have hrow : Row W q [⟨1, 255, 0, 0, 0⟩, ⟨1, 255, 0, 0, 0⟩] := by unfold Row; rw [h]; rfl
  have hr := hrow.rep (B := W.heap.size) (o := 0) (n := 2) (c := 2) (by intro b hb; simp only [List.mem_cons, List.not_mem_nil, or_false, or_self] at hb; subst hb; exact ⟨by decide, by decide⟩) hrow.lt (by simp) (Nat.le_refl _) (by unfold maxLen; omega)
  have e : (List.drop 0 [(⟨1, 255, 0, 0, 0⟩ : Byt), ⟨1, 255, 0, 0, 0⟩]).take 2 = [⟨1, 255, 0, 0, 0⟩, ⟨1, 255, 0, 0, 0⟩] := rfl
  rw [e] at hr
  have := unpack_any 12 _ _ W hr
  rw [unpack_12] at this
  exact this
set_option maxRecDepth 100000 in
set_option maxHeartbeats 3200000 in
theorem lives_mem (w : World) : Calls Try.prog 30 #[] w fun e w' => e = .returned (.bool true) ∧ Below w.heap.size w w' := by
  have hb1 := (Below.refl w.heap.size w).alloc (Nat.le_refl _) (.cells #[.int .i64 4] 3)
  have hr : (Rp.slice 1 RNum).rep (w.alloc (.cells #[.int .i64 4] 3)) (w.alloc (.cells #[.int .i64 4] 3)).heap.size [.slice (some ⟨w.heap.size, 0, none⟩) 1 1] [4] := by
    refine ⟨_, 1, rfl, Nat.le_refl _, by unfold maxLen; omega, fun _ => ⟨w.heap.size, 0, rfl, by simp, fun i x hx => ?_⟩⟩
    match i, hx with
    | 0, hx =>
      cases hx
      refine ⟨[.int .i64 4], rfl, ⟨rfl, trivial⟩, fun j u hu => ?_⟩
      have := (List.getElem?_eq_some_iff.1 hu).1
      obtain rfl : j = 0 := by simp at this; omega
      cases hu
      exact one_cell (box_top w _)
  have hN := hide (new_any [4] _ _ hr (by decide))
  clear hr
  go_enter Try.func30, Try.ntmps30
  go_wp2_with fail
  refine hN.out.mono ?_
  rintro e w1 ⟨g, rfl, ⟨F, hM, hF⟩, hb2⟩
  have hS := hide (store_any g F _ 8 ⟨1, 7, 0, 0⟩ ⟨2, 0, 0, 3⟩ w1 hM ⟨by decide, by decide⟩)
  have hb3 := hide (hb1.trans (hb2.mono (by simp)))
  have hF1 : Hid (∀ k, F k → w.heap.size ≤ k) := hide (fun k hk => by have := hF k hk; simp at this; omega)
  clear hF hb1 hb2 hM
  go_wp2_with (go_at_call 49; refine hS.out.mono ?_; rintro e w2 ⟨rfl, hM2, hU2⟩; rw [store_4] at hM2; replace hM2 := hide hM2; replace hU2 := hide hU2; rw [store_4])
  have hL := hide (load_any g F _ 32 ⟨2, 0, 0, 0⟩ w2 hM2.out)
  refine hL.out.mono ?_
  rintro e w3 ⟨rfl, hb4⟩
  rw [load_4]
  have hb5 := hide ((hb3.out.trans (hU2.out.below hb3.out.size hF1.out)).trans (hb4.mono (Nat.le_trans hb3.out.size hU2.out.size)))
  clear hb4
  have hq : ((w3.alloc (.cells #[.int .i64 1, .int .u64 117440512, .int .i64 0, .int .i64 0] 47)).alloc (.cells #[.int .i64 1, .int .u8 255, .int .i64 0, .int .i64 0, .int .i64 0, .int .i64 1, .int .u8 255, .int .i64 0, .int .i64 0, .int .i64 0] 54)).heap[w3.heap.size + 1]? = some (.cells #[.int .i64 1, .int .u8 255, .int .i64 0, .int .i64 0, .int .i64 0, .int .i64 1, .int .u8 255, .int .i64 0, .int .i64 0, .int .i64 0] 54 (0, 0)) := by
    have := box_top (w3.alloc (.cells #[.int .i64 1, .int .u64 117440512, .int .i64 0, .int .i64 0] 47)) (.cells #[.int .i64 1, .int .u8 255, .int .i64 0, .int .i64 0, .int .i64 0, .int .i64 1, .int .u8 255, .int .i64 0, .int .i64 0, .int .i64 0] 54)
    simpa using this
  have hU := hide (unpack_two _ _ hq)
  have hb7 := hide ((hb5.out.alloc hb5.out.size (.cells #[.int .i64 1, .int .u64 117440512, .int .i64 0, .int .i64 0] 47)).alloc (by have := hb5.out.size; simp; omega) (.cells #[.int .i64 1, .int .u8 255, .int .i64 0, .int .i64 0, .int .i64 0, .int .i64 1, .int .u8 255, .int .i64 0, .int .i64 0, .int .i64 0] 54))
  clear hq
  go_wp2_with fail
  refine hU.out.mono ?_
  rintro e w4 ⟨rfl, hb6⟩
  have hb8 := hide (hb7.out.trans (hb6.mono hb7.out.size))
  clear hb6
  go_wp2
  go_ret
  exact ⟨rfl, hb8.out⟩
end Go.Proofs.Ytgkgmeofilkopaa
