/- lathelaw14.lives. No condition. -/
import Derived.Test.YtaljdbmmjgmbbaaUsD
import Derived.Test.YtaljdbmmjgmbbaaIrG
namespace Go.Proofs.Ytaljdbmmjgmbbaa
open Go.RowKit
set_option linter.unusedSimpArgs false
set_option linter.unusedVariables false

def l14A : Ins := ⟨24, 0, 8, 0, 0, [⟨3, 0, 0⟩], []⟩
def l14H : Ins := ⟨33, -1, 0, 0, 0, [], []⟩
def l14B : List (List Ins) := [[l14A, l14H]]
def l14F : Fun := ⟨⟨#[]⟩, [], 0, l14B⟩
theorem l14_flat : l14B.flatten = [l14A, l14H] := rfl
theorem l14_no : ¬ Need l14B.flatten l14A := by
  intro h
  cases h with
  | base h1 h2 => exact absurd h2 (by decide)
  | step h1 h2 h3 h4 =>
    have hm := h3.mem
    rw [l14_flat] at hm
    rcases List.mem_cons.1 hm with rfl | hm
    · exact absurd h4 (by decide)
    · rcases List.mem_cons.1 hm with rfl | hm
      · exact absurd h4 (by decide)
      · cases hm
theorem l14_yes : Need l14B.flatten l14H := .base (by rw [l14_flat]; simp) (by decide)
theorem l14_clean : cleanL l14B = [[l14H]] := by
  show [[l14A, l14H].filter (needB l14B.flatten)] = [[l14H]]
  rw [List.filter_cons, needB_no l14_no, if_neg (by simp), List.filter_cons, needB_iff.2 l14_yes, if_pos rfl]
  rfl
theorem l14_small : Small l14F := ⟨by decide, by decide, fun x hx => by
  have : x = [l14A, l14H] := by simpa [l14F, l14B] using hx
  subst this
  refine ⟨by decide, fun i hi => ?_⟩
  rcases List.mem_cons.1 hi with rfl | hi
  · decide
  · rcases List.mem_cons.1 hi with rfl | hi
    · decide
    · cases hi⟩
set_option maxRecDepth 100000 in
set_option maxHeartbeats 6400000 in
theorem lives14 (w : World) : Calls Try.prog 31 #[] w fun e w' => e = .returned (.bool true) ∧ Below w.heap.size w w' := by
  obtain ⟨W, hW, hwW, hWs, -, -, -, hx⟩ := boxes4 w #[.int .i64 3, .int .i64 0, .int .u64 0]
    #[.int .i64 24, .int .i64 0, .int .i64 8, .int .i64 0, .int .i64 0, .slice (some ⟨w.heap.size, 0, none⟩) 1 1, .slice none 0 0, .int .i64 33, .int .i64 (-1), .int .i64 0, .int .i64 0, .int .i64 0, .slice none 0 0, .slice none 0 0]
    #[.slice (some ⟨w.heap.size + 1, 0, none⟩) 2 2] #[.string ⟨#[]⟩, .slice none 0 0, .int .i64 0, .slice (some ⟨w.heap.size + 1 + 1, 0, none⟩) 1 1] 28 44 41 25
  have x0 : ∀ w', Below W.heap.size W w' → w'.cell? ⟨w.heap.size + 1 + 1 + 1, 0, none⟩ = some (.string ⟨#[]⟩) := hx 0 _ rfl
  have x1 : ∀ w', Below W.heap.size W w' → w'.cell? ⟨w.heap.size + 1 + 1 + 1, 1, none⟩ = some (.slice none 0 0) := hx 1 _ rfl
  have x2 : ∀ w', Below W.heap.size W w' → w'.cell? ⟨w.heap.size + 1 + 1 + 1, 2, none⟩ = some (.int .i64 0) := hx 2 _ rfl
  have x3 : ∀ w', Below W.heap.size W w' → w'.cell? ⟨w.heap.size + 1 + 1 + 1, 3, none⟩ = some (.slice (some ⟨w.heap.size + 1 + 1, 0, none⟩) 1 1) := hx 3 _ rfl
  clear hx
  have e0 : W.heap[w.heap.size]? = some (.cells #[.int .i64 3, .int .i64 0, .int .u64 0] 28 (0, 0)) := by rw [← hW]; exact one_alloc (one_alloc (one_alloc (box_top _ _) _) _) _
  have s1 : ∀ o1, (w.alloc o1).heap.size = w.heap.size + 1 := fun _ => by simp
  have s2 : ∀ o1 o2, ((w.alloc o1).alloc o2).heap.size = w.heap.size + 1 + 1 := fun _ _ => by simp
  have e1 : W.heap[w.heap.size + 1]? = some (.cells #[.int .i64 24, .int .i64 0, .int .i64 8, .int .i64 0, .int .i64 0, .slice (some ⟨w.heap.size, 0, none⟩) 1 1, .slice none 0 0, .int .i64 33, .int .i64 (-1), .int .i64 0, .int .i64 0, .int .i64 0, .slice none 0 0, .slice none 0 0] 44 (0, 0)) := by
    rw [← hW]; refine one_alloc (one_alloc ?_ _) _; rw [← s1 (.cells #[.int .i64 3, .int .i64 0, .int .u64 0] 28)]; exact box_top _ _
  have e2 : W.heap[w.heap.size + 1 + 1]? = some (.cells #[.slice (some ⟨w.heap.size + 1, 0, none⟩) 2 2] 41 (0, 0)) := by
    rw [← hW]; refine one_alloc ?_ _; rw [← s2 (.cells #[.int .i64 3, .int .i64 0, .int .u64 0] 28) (.cells #[.int .i64 24, .int .i64 0, .int .i64 8, .int .i64 0, .int .i64 0, .slice (some ⟨w.heap.size, 0, none⟩) 1 1, .slice none 0 0, .int .i64 33, .int .i64 (-1), .int .i64 0, .int .i64 0, .int .i64 0, .slice none 0 0, .slice none 0 0] 44)]; exact box_top _ _
  clear s1 s2
  have hml : ∀ n, n ≤ 8 → n ≤ maxLen := fun n hn => by unfold maxLen; omega
  have ra : ROpds.rep W W.heap.size [.slice (some ⟨w.heap.size, 0, none⟩) 1 1] l14A.args := slice_mk (xs := ([⟨3, 0, 0⟩] : List Opd)) (by omega) e0 (Nat.le_refl _) (hml _ (by simp)) (fun i x hx => by
    have : i = 0 := by have := (List.getElem?_eq_some_iff.1 hx).1; simp at this; omega
    subst this
    injection hx with hx; subst hx
    exact ⟨[.int .i64 3, .int .i64 0, .int .u64 0], rfl, ⟨rfl, by decide, by decide⟩, rfl⟩)
  have ri : RBlk.rep W W.heap.size [.slice (some ⟨w.heap.size + 1, 0, none⟩) 2 2] [l14A, l14H] := slice_mk (xs := [l14A, l14H]) (by omega) e1 (Nat.le_refl _) (hml _ (by simp)) (fun i x hx => by
    have : i = 0 ∨ i = 1 := by have := (List.getElem?_eq_some_iff.1 hx).1; simp at this; omega
    rcases this with rfl | rfl
    · injection hx with hx; subst hx
      exact ⟨_, rfl, ⟨.slice (some ⟨w.heap.size, 0, none⟩) 1 1, .slice none 0 0, rfl, ra, Rp.nil_rep, by decide, by decide, by decide, by decide, by decide⟩, rfl⟩
    · injection hx with hx; subst hx
      exact ⟨[.int .i64 33, .int .i64 (-1), .int .i64 0, .int .i64 0, .int .i64 0, .slice none 0 0, .slice none 0 0], rfl, ⟨.slice none 0 0, .slice none 0 0, rfl, Rp.nil_rep, Rp.nil_rep, by decide, by decide, by decide, by decide, by decide⟩, rfl⟩)
  have rb : RBlks.rep W W.heap.size [.slice (some ⟨w.heap.size + 1 + 1, 0, none⟩) 1 1] l14F.blocks := slice_mk (xs := [[l14A, l14H]]) (by omega) e2 (Nat.le_refl _) (hml _ (by simp)) (fun i x hx => by
    have : i = 0 := by have := (List.getElem?_eq_some_iff.1 hx).1; simp at this; omega
    subst this
    injection hx with hx; subst hx
    exact ⟨[.slice (some ⟨w.heap.size + 1, 0, none⟩) 2 2], rfl, ri, rfl⟩)
  have rf : RFun.rep W W.heap.size [.string l14F.name, .slice none 0 0, .int .i64 l14F.ret, .slice (some ⟨w.heap.size + 1 + 1, 0, none⟩) 1 1] l14F := ⟨_, _, rfl, Rp.nil_rep, rb, by decide, by decide⟩
  have cN : Hid (Calls Try.prog 71 #[.agg #[.string ⟨#[]⟩, .slice none 0 0, .int .i64 0, .slice (some ⟨w.heap.size + 1 + 1, 0, none⟩) 1 1]] W (NeededPost l14B W)) := hide (needed_any l14F _ _ W W.heap.size (Nat.le_refl _) rf l14_small (by decide))
  have cC : Hid (∀ w', Below W.heap.size W w' → Calls Try.prog 32 #[.agg #[.string ⟨#[]⟩, .slice none 0 0, .int .i64 0, .slice (some ⟨w.heap.size + 1 + 1, 0, none⟩) 1 1]] w' (CopyPost (setBlocks l14F (cleanL l14B)) w')) := hide (fun w' h => clean_any l14F _ _ w' w'.heap.size (Nat.le_refl _) (RFun.later rf h h.size) l14_small (by decide))
  clear e0 e1 e2 ra ri rb rf hml
  have hsz : w.heap.size ≤ W.heap.size := by omega
  replace hWs := hide hWs
  replace hwW := hide hwW
  have hself := Below.refl W.heap.size W
  replace hW := hide hW
  go_enter Try.func31, Try.ntmps31
  go_upto_region 2 with (fail)
  rw [hW.out]
  clear hW
  go_wp2_with (fail)
  refine cN.out.mono ?_
  rintro e X ⟨g, gs, T, rfl, hT, hTb, hbX⟩
  have hlen1 : l14B.length = 1 := rfl
  rw [hlen1] at hT ⊢
  have hgl := (hT.outer 0).2.2.2
  have t0 : ∀ w', Below X.heap.size X w' → w'.cell? ⟨g, 0, none⟩ = some (.slice (some ⟨gs 0, 0, none⟩) 2 2) := fun w' h => (h.cell (p := ⟨g, 0, none⟩) hgl).trans (hT.row (Nat.le_refl _) (show 0 < 1 by omega))
  have t1 : ∀ w', Below X.heap.size X w' → w'.cell? ⟨gs 0, 0, none⟩ = some (.bool false) := fun w' h => by
    rw [h.cell (p := ⟨gs 0, 0, none⟩) (hT.lt (show 0 < 1 by omega)).2, (hT.cell (k := 0) (i := 0) (by omega) (show 0 < 2 by omega)).1, hTb 0 0 l14A rfl, needB_no l14_no]
  have t2 : ∀ w', Below X.heap.size X w' → w'.cell? ⟨gs 0, 1, none⟩ = some (.bool true) := fun w' h => by
    rw [h.cell (p := ⟨gs 0, 1, none⟩) (hT.lt (show 0 < 1 by omega)).2, (hT.cell (k := 0) (i := 1) (by omega) (show 1 < 2 by omega)).1, hTb 0 1 l14H rfl, needB_iff.2 l14_yes]
  have hselfX := Below.refl X.heap.size X
  have cX := hide (cC.out X hbX)
  have z0 : ∀ w', Below X.heap.size X w' → w'.cell? ⟨w.heap.size + 1 + 1 + 1, 0, none⟩ = some (.string ⟨#[]⟩) := fun w' h => x0 w' (hbX.trans (h.mono hbX.size))
  have z1 : ∀ w', Below X.heap.size X w' → w'.cell? ⟨w.heap.size + 1 + 1 + 1, 1, none⟩ = some (.slice none 0 0) := fun w' h => x1 w' (hbX.trans (h.mono hbX.size))
  have z2 : ∀ w', Below X.heap.size X w' → w'.cell? ⟨w.heap.size + 1 + 1 + 1, 2, none⟩ = some (.int .i64 0) := fun w' h => x2 w' (hbX.trans (h.mono hbX.size))
  have z3 : ∀ w', Below X.heap.size X w' → w'.cell? ⟨w.heap.size + 1 + 1 + 1, 3, none⟩ = some (.slice (some ⟨w.heap.size + 1 + 1, 0, none⟩) 1 1) := fun w' h => x3 w' (hbX.trans (h.mono hbX.size))
  have hwX := hide (hwW.out.trans (hbX.mono hsz))
  replace hT := hide hT
  replace hTb := hide hTb
  replace hbX := hide hbX
  clear x0 x1 x2 x3 hself
  go_wp2_with (fail)
  refine cX.out.mono ?_
  rintro e Y ⟨c, d, rfl, hOI, hOK, hbY⟩
  have cSz := hide (size_any (setBlocks l14F (cleanL l14B)) c d Y Y.heap.size (Nat.le_refl _) hOI.rep hOK.rep (by show (cleanL l14B).flatten.length ≤ _; rw [l14_clean]; decide))
  have hone : (((setBlocks l14F (cleanL l14B)).blocks.flatten.length : Nat) : Int) = 1 := by show (((cleanL l14B).flatten.length : Nat) : Int) = 1; rw [l14_clean]; rfl
  rw [hone] at cSz
  clear hone
  have hwY := hide (hwX.out.trans (hbY.mono hwX.out.size))
  replace hOI := hide hOI
  replace hOK := hide hOK
  replace hbY := hide hbY
  go_wp2_with (fail)
  refine cSz.out.mono ?_
  rintro e Z ⟨rfl, hbZ⟩
  have hwZ := hide (hwY.out.trans (hbZ.mono hwY.out.size))
  replace hbZ := hide hbZ
  go_wp2
  go_ret
  exact ⟨rfl, hwZ.out⟩
end Go.Proofs.Ytaljdbmmjgmbbaa
