/- lathelaw19.lives. No condition. -/
import Derived.Test.YtidjaohlaljmpaaMsL
import Derived.Test.YtidjaohlaljmpaaGrY
namespace Go.Proofs.Ytidjaohlaljmpaa
open Go.RowKit
set_option linter.unusedSimpArgs false
set_option linter.unusedVariables false

set_option maxRecDepth 100000 in
set_option maxHeartbeats 6400000 in
theorem lives19_any (w : World) : Calls Try.prog 28 #[] w (RetB true w) := by
  obtain ⟨W, hW⟩ : ∃ W, ((((((((((w.alloc (.cells #[.int .i64 3] 3)).alloc (.cells #[.int .i64 28, .int .i64 (-1), .int .i64 0, .int .i64 0, .int .i64 0, .slice none 0 0, .slice none 0 0] 67)).alloc (.cells #[.int .i64 31, .int .i64 (-1), .int .i64 0, .int .i64 0, .int .i64 0, .slice none 0 0, .slice (some ⟨w.heap.size, 0, none⟩) 1 1] 67)).alloc (.cells #[.int .i64 1, .int .i64 2] 3)).alloc (.cells #[.int .i64 28, .int .i64 (-1), .int .i64 0, .int .i64 0, .int .i64 0, .slice none 0 0, .slice none 0 0, .int .i64 32, .int .i64 (-1), .int .i64 0, .int .i64 0, .int .i64 0, .slice none 0 0, .slice (some ⟨w.heap.size + 1 + 1 + 1, 0, none⟩) 2 2] 67)).alloc (.cells #[.int .i64 28, .int .i64 (-1), .int .i64 0, .int .i64 0, .int .i64 0, .slice none 0 0, .slice none 0 0, .int .i64 31, .int .i64 (-1), .int .i64 0, .int .i64 0, .int .i64 0, .slice none 0 0, .slice (some ⟨w.heap.size, 0, none⟩) 1 1] 67)).alloc (.cells #[.int .i64 31, .int .i64 (-1), .int .i64 0, .int .i64 0, .int .i64 0, .slice none 0 0, .slice (some ⟨w.heap.size, 0, none⟩) 1 1] 67)).alloc (.cells #[.int .i64 27, .int .i64 0, .int .i64 0, .int .i64 0, .int .i64 0, .slice none 0 0, .slice none 0 0, .int .i64 33, .int .i64 (-1), .int .i64 0, .int .i64 0, .int .i64 0, .slice none 0 0, .slice none 0 0] 67)).alloc (.cells #[.slice (some ⟨w.heap.size + 1 + 1 + 1 + 1, 0, none⟩) 2 2, .slice (some ⟨w.heap.size + 1 + 1 + 1 + 1 + 1, 0, none⟩) 2 2, .slice (some ⟨w.heap.size + 1 + 1 + 1 + 1 + 1 + 1, 0, none⟩) 1 1, .slice (some ⟨w.heap.size + 1 + 1 + 1 + 1 + 1 + 1 + 1, 0, none⟩) 2 2] 64)).alloc (.cells #[.string ⟨#[]⟩, .slice none 0 0, .int .i64 0, .slice (some ⟨w.heap.size + 1 + 1 + 1 + 1 + 1 + 1 + 1 + 1, 0, none⟩) 4 4] 25)) = W := ⟨_, rfl⟩
  have hWs : W.heap.size = w.heap.size + 10 := by rw [← hW]; simp
  have hwW : Below w.heap.size w W := by
    rw [← hW]
    repeat (refine Below.alloc ?_ (by simp <;> omega) _)
    exact Below.refl _ _
  have e0 : W.heap[w.heap.size]? = some (.cells #[.int .i64 3] 3 (0, 0)) := by rw [← hW]; exact (one_alloc (one_alloc (one_alloc (one_alloc (one_alloc (one_alloc (one_alloc (one_alloc (one_alloc (box_top _ _) _) _) _) _) _) _) _) _) _)
  have e1 : W.heap[w.heap.size + 1]? = some (.cells #[.int .i64 28, .int .i64 (-1), .int .i64 0, .int .i64 0, .int .i64 0, .slice none 0 0, .slice none 0 0] 67 (0, 0)) := by rw [← hW]; exact (one_alloc (one_alloc (one_alloc (one_alloc (one_alloc (one_alloc (one_alloc (one_alloc (box_at _ (by simp)) _) _) _) _) _) _) _) _)
  have e2 : W.heap[w.heap.size + 1 + 1]? = some (.cells #[.int .i64 31, .int .i64 (-1), .int .i64 0, .int .i64 0, .int .i64 0, .slice none 0 0, .slice (some ⟨w.heap.size, 0, none⟩) 1 1] 67 (0, 0)) := by rw [← hW]; exact (one_alloc (one_alloc (one_alloc (one_alloc (one_alloc (one_alloc (one_alloc (box_at _ (by simp)) _) _) _) _) _) _) _)
  have e3 : W.heap[w.heap.size + 1 + 1 + 1]? = some (.cells #[.int .i64 1, .int .i64 2] 3 (0, 0)) := by rw [← hW]; exact (one_alloc (one_alloc (one_alloc (one_alloc (one_alloc (one_alloc (box_at _ (by simp)) _) _) _) _) _) _)
  have e4 : W.heap[w.heap.size + 1 + 1 + 1 + 1]? = some (.cells #[.int .i64 28, .int .i64 (-1), .int .i64 0, .int .i64 0, .int .i64 0, .slice none 0 0, .slice none 0 0, .int .i64 32, .int .i64 (-1), .int .i64 0, .int .i64 0, .int .i64 0, .slice none 0 0, .slice (some ⟨w.heap.size + 1 + 1 + 1, 0, none⟩) 2 2] 67 (0, 0)) := by rw [← hW]; exact (one_alloc (one_alloc (one_alloc (one_alloc (one_alloc (box_at _ (by simp)) _) _) _) _) _)
  have e5 : W.heap[w.heap.size + 1 + 1 + 1 + 1 + 1]? = some (.cells #[.int .i64 28, .int .i64 (-1), .int .i64 0, .int .i64 0, .int .i64 0, .slice none 0 0, .slice none 0 0, .int .i64 31, .int .i64 (-1), .int .i64 0, .int .i64 0, .int .i64 0, .slice none 0 0, .slice (some ⟨w.heap.size, 0, none⟩) 1 1] 67 (0, 0)) := by rw [← hW]; exact (one_alloc (one_alloc (one_alloc (one_alloc (box_at _ (by simp)) _) _) _) _)
  have e6 : W.heap[w.heap.size + 1 + 1 + 1 + 1 + 1 + 1]? = some (.cells #[.int .i64 31, .int .i64 (-1), .int .i64 0, .int .i64 0, .int .i64 0, .slice none 0 0, .slice (some ⟨w.heap.size, 0, none⟩) 1 1] 67 (0, 0)) := by rw [← hW]; exact (one_alloc (one_alloc (one_alloc (box_at _ (by simp)) _) _) _)
  have e7 : W.heap[w.heap.size + 1 + 1 + 1 + 1 + 1 + 1 + 1]? = some (.cells #[.int .i64 27, .int .i64 0, .int .i64 0, .int .i64 0, .int .i64 0, .slice none 0 0, .slice none 0 0, .int .i64 33, .int .i64 (-1), .int .i64 0, .int .i64 0, .int .i64 0, .slice none 0 0, .slice none 0 0] 67 (0, 0)) := by rw [← hW]; exact (one_alloc (one_alloc (box_at _ (by simp)) _) _)
  have e8 : W.heap[w.heap.size + 1 + 1 + 1 + 1 + 1 + 1 + 1 + 1]? = some (.cells #[.slice (some ⟨w.heap.size + 1 + 1 + 1 + 1, 0, none⟩) 2 2, .slice (some ⟨w.heap.size + 1 + 1 + 1 + 1 + 1, 0, none⟩) 2 2, .slice (some ⟨w.heap.size + 1 + 1 + 1 + 1 + 1 + 1, 0, none⟩) 1 1, .slice (some ⟨w.heap.size + 1 + 1 + 1 + 1 + 1 + 1 + 1, 0, none⟩) 2 2] 64 (0, 0)) := by rw [← hW]; exact (one_alloc (box_at _ (by simp)) _)
  have e9 : W.heap[w.heap.size + 1 + 1 + 1 + 1 + 1 + 1 + 1 + 1 + 1]? = some (.cells #[.string ⟨#[]⟩, .slice none 0 0, .int .i64 0, .slice (some ⟨w.heap.size + 1 + 1 + 1 + 1 + 1 + 1 + 1 + 1, 0, none⟩) 4 4] 25 (0, 0)) := by rw [← hW]; exact (box_at _ (by simp))
  have hml : ∀ n, n ≤ 8 → n ≤ maxLen := fun n hn => by unfold maxLen; omega
  have r0 : RInts.rep W W.heap.size [.slice (some ⟨w.heap.size, 0, none⟩) 1 1] [3] := slice_mk (xs := ([3] : List Int)) (by omega) e0 (Nat.le_refl _) (hml _ (by simp)) (fun i x hx => by
    have : i = 0 := by have := (List.getElem?_eq_some_iff.1 hx).1; simp at this; omega
    subst this
    injection hx with hx; subst hx; exact ⟨[.int .i64 3], rfl, ⟨rfl, by decide⟩, rfl⟩)
  have r3 : RInts.rep W W.heap.size [.slice (some ⟨w.heap.size + 1 + 1 + 1, 0, none⟩) 2 2] [1, 2] := slice_mk (xs := ([1, 2] : List Int)) (by omega) e3 (Nat.le_refl _) (hml _ (by simp)) (fun i x hx => by
    have : i = 0 ∨ i = 1 := by have := (List.getElem?_eq_some_iff.1 hx).1; simp at this; omega
    rcases this with rfl | rfl
    · injection hx with hx; subst hx; exact ⟨[.int .i64 1], rfl, ⟨rfl, by decide⟩, rfl⟩
    · injection hx with hx; subst hx; exact ⟨[.int .i64 2], rfl, ⟨rfl, by decide⟩, rfl⟩)
  have r4 : RBlk.rep W W.heap.size [.slice (some ⟨w.heap.size + 1 + 1 + 1 + 1, 0, none⟩) 2 2] [l19S, l19I] := slice_mk (xs := [l19S, l19I]) (by omega) e4 (Nat.le_refl _) (hml _ (by simp)) (fun i x hx => by
    have : i = 0 ∨ i = 1 := by have := (List.getElem?_eq_some_iff.1 hx).1; simp at this; omega
    rcases this with rfl | rfl
    · injection hx with hx; subst hx
      exact ⟨_, rfl, ⟨.slice none 0 0, .slice none 0 0, rfl, Rp.nil_rep, Rp.nil_rep, by decide, by decide, by decide, by decide, by decide⟩, rfl⟩
    · injection hx with hx; subst hx
      exact ⟨_, rfl, ⟨.slice none 0 0, .slice (some ⟨w.heap.size + 1 + 1 + 1, 0, none⟩) 2 2, rfl, Rp.nil_rep, r3, by decide, by decide, by decide, by decide, by decide⟩, rfl⟩)
  have r5 : RBlk.rep W W.heap.size [.slice (some ⟨w.heap.size + 1 + 1 + 1 + 1 + 1, 0, none⟩) 2 2] [l19S, l19J] := slice_mk (xs := [l19S, l19J]) (by omega) e5 (Nat.le_refl _) (hml _ (by simp)) (fun i x hx => by
    have : i = 0 ∨ i = 1 := by have := (List.getElem?_eq_some_iff.1 hx).1; simp at this; omega
    rcases this with rfl | rfl
    · injection hx with hx; subst hx
      exact ⟨_, rfl, ⟨.slice none 0 0, .slice none 0 0, rfl, Rp.nil_rep, Rp.nil_rep, by decide, by decide, by decide, by decide, by decide⟩, rfl⟩
    · injection hx with hx; subst hx
      exact ⟨_, rfl, ⟨.slice none 0 0, .slice (some ⟨w.heap.size, 0, none⟩) 1 1, rfl, Rp.nil_rep, r0, by decide, by decide, by decide, by decide, by decide⟩, rfl⟩)
  have r6 : RBlk.rep W W.heap.size [.slice (some ⟨w.heap.size + 1 + 1 + 1 + 1 + 1 + 1, 0, none⟩) 1 1] [l19J] := slice_mk (xs := [l19J]) (by omega) e6 (Nat.le_refl _) (hml _ (by simp)) (fun i x hx => by
    have : i = 0 := by have := (List.getElem?_eq_some_iff.1 hx).1; simp at this; omega
    rcases this with rfl
    · injection hx with hx; subst hx
      exact ⟨_, rfl, ⟨.slice none 0 0, .slice (some ⟨w.heap.size, 0, none⟩) 1 1, rfl, Rp.nil_rep, r0, by decide, by decide, by decide, by decide, by decide⟩, rfl⟩)
  have r7 : RBlk.rep W W.heap.size [.slice (some ⟨w.heap.size + 1 + 1 + 1 + 1 + 1 + 1 + 1, 0, none⟩) 2 2] [l19L, l19R] := slice_mk (xs := [l19L, l19R]) (by omega) e7 (Nat.le_refl _) (hml _ (by simp)) (fun i x hx => by
    have : i = 0 ∨ i = 1 := by have := (List.getElem?_eq_some_iff.1 hx).1; simp at this; omega
    rcases this with rfl | rfl
    · injection hx with hx; subst hx
      exact ⟨_, rfl, ⟨.slice none 0 0, .slice none 0 0, rfl, Rp.nil_rep, Rp.nil_rep, by decide, by decide, by decide, by decide, by decide⟩, rfl⟩
    · injection hx with hx; subst hx
      exact ⟨_, rfl, ⟨.slice none 0 0, .slice none 0 0, rfl, Rp.nil_rep, Rp.nil_rep, by decide, by decide, by decide, by decide, by decide⟩, rfl⟩)
  have rb : RBlks.rep W W.heap.size [.slice (some ⟨w.heap.size + 1 + 1 + 1 + 1 + 1 + 1 + 1 + 1, 0, none⟩) 4 4] l19F.blocks := slice_mk (xs := l19B) (by omega) e8 (Nat.le_refl _) (hml _ (by decide)) (fun i x hx => by
    have : i = 0 ∨ i = 1 ∨ i = 2 ∨ i = 3 := by have := (List.getElem?_eq_some_iff.1 hx).1; simp [l19B] at this; omega
    rcases this with rfl | rfl | rfl | rfl
    · injection hx with hx; subst hx; exact ⟨[.slice (some ⟨w.heap.size + 1 + 1 + 1 + 1, 0, none⟩) 2 2], rfl, r4, rfl⟩
    · injection hx with hx; subst hx; exact ⟨[.slice (some ⟨w.heap.size + 1 + 1 + 1 + 1 + 1, 0, none⟩) 2 2], rfl, r5, rfl⟩
    · injection hx with hx; subst hx; exact ⟨[.slice (some ⟨w.heap.size + 1 + 1 + 1 + 1 + 1 + 1, 0, none⟩) 1 1], rfl, r6, rfl⟩
    · injection hx with hx; subst hx; exact ⟨[.slice (some ⟨w.heap.size + 1 + 1 + 1 + 1 + 1 + 1 + 1, 0, none⟩) 2 2], rfl, r7, rfl⟩)
  have hf : Hid (RFun.rep W W.heap.size [.string l19F.name, .slice none 0 0, .int .i64 l19F.ret, .slice (some ⟨w.heap.size + 1 + 1 + 1 + 1 + 1 + 1 + 1 + 1, 0, none⟩) 4 4] l19F) := hide ⟨_, _, rfl, Rp.nil_rep, rb, by decide, by decide⟩
  have f0 : ∀ w', Below W.heap.size W w' → w'.cell? ⟨w.heap.size + 1 + 1 + 1 + 1 + 1 + 1 + 1 + 1 + 1, 0, none⟩ = some (.string ⟨#[]⟩) := fun w' h => by rw [h.cell (p := ⟨w.heap.size + 1 + 1 + 1 + 1 + 1 + 1 + 1 + 1 + 1, 0, none⟩) (by show w.heap.size + 1 + 1 + 1 + 1 + 1 + 1 + 1 + 1 + 1 < W.heap.size; omega)]; simp [World.cell?, e9]
  have f1 : ∀ w', Below W.heap.size W w' → w'.cell? ⟨w.heap.size + 1 + 1 + 1 + 1 + 1 + 1 + 1 + 1 + 1, 1, none⟩ = some (.slice none 0 0) := fun w' h => by rw [h.cell (p := ⟨w.heap.size + 1 + 1 + 1 + 1 + 1 + 1 + 1 + 1 + 1, 1, none⟩) (by show w.heap.size + 1 + 1 + 1 + 1 + 1 + 1 + 1 + 1 + 1 < W.heap.size; omega)]; simp [World.cell?, e9]
  have f2 : ∀ w', Below W.heap.size W w' → w'.cell? ⟨w.heap.size + 1 + 1 + 1 + 1 + 1 + 1 + 1 + 1 + 1, 2, none⟩ = some (.int .i64 0) := fun w' h => by rw [h.cell (p := ⟨w.heap.size + 1 + 1 + 1 + 1 + 1 + 1 + 1 + 1 + 1, 2, none⟩) (by show w.heap.size + 1 + 1 + 1 + 1 + 1 + 1 + 1 + 1 + 1 < W.heap.size; omega)]; simp [World.cell?, e9]
  have f3 : ∀ w', Below W.heap.size W w' → w'.cell? ⟨w.heap.size + 1 + 1 + 1 + 1 + 1 + 1 + 1 + 1 + 1, 3, none⟩ = some (.slice (some ⟨w.heap.size + 1 + 1 + 1 + 1 + 1 + 1 + 1 + 1, 0, none⟩) 4 4) := fun w' h => by rw [h.cell (p := ⟨w.heap.size + 1 + 1 + 1 + 1 + 1 + 1 + 1 + 1 + 1, 3, none⟩) (by show w.heap.size + 1 + 1 + 1 + 1 + 1 + 1 + 1 + 1 + 1 < W.heap.size; omega)]; simp [World.cell?, e9]
  clear e0 e1 e2 e3 e4 e5 e6 e7 e8 e9 r0 r3 r4 r5 r6 r7 rb hml
  have hsz : w.heap.size ≤ W.heap.size := by omega
  have hzz : funSz l19F ≤ 2000000 := by decide
  have cB : Hid (∀ w', Below W.heap.size W w' → Calls Try.prog 30 #[.agg #[.string ⟨#[]⟩, .slice none 0 0, .int .i64 0, .slice (some ⟨w.heap.size + 1 + 1 + 1 + 1 + 1 + 1 + 1 + 1, 0, none⟩) 4 4]] w' (MBuildPost l19F l19H (orderF l19B) (succsF l19B) (predsL (succsF l19B) 4) 4 w')) := hide (fun w' h => mbuild_any l19F (.slice none 0 0) (.slice (some ⟨w.heap.size + 1 + 1 + 1 + 1 + 1 + 1 + 1 + 1, 0, none⟩) 4 4) w' w'.heap.size (Nat.le_refl _) (RFun.later hf.out h h.size) hzz)
  have cE : Hid (∀ w', Below W.heap.size W w' → Calls Try.prog 34 #[.agg #[.string ⟨#[]⟩, .slice none 0 0, .int .i64 0, .slice (some ⟨w.heap.size + 1 + 1 + 1 + 1 + 1 + 1 + 1 + 1, 0, none⟩) 4 4]] w' (EndsPost l19F l19H (orderF l19B) (succsF l19B) 4 w')) := hide (fun w' h => mends_any l19F (.slice none 0 0) (.slice (some ⟨w.heap.size + 1 + 1 + 1 + 1 + 1 + 1 + 1 + 1, 0, none⟩) 4 4) w' w'.heap.size (Nat.le_refl _) (RFun.later hf.out h h.size) hzz)
  have hself := Below.refl W.heap.size W
  replace hWs := hide hWs
  replace hwW := hide hwW
  clear hf hzz
  go_enter Try.func28, Try.ntmps28
  go_upto_region 3 with (fail)
  try rw [hW]
  clear hW
  go_wp2_with (fail)
  refine (cB.out _ hself).mono ?_
  rintro e X ⟨v, l, es, rfl, hI, hOw, hb1⟩
  have hI := hI (by decide)
  have hl := l19_up hI
  subst hl
  rw [if_neg (by decide)] at hOw
  obtain ⟨A, C, rfl⟩ := row_form hOw.row
  have hlen : (builtA (laidA l19F.blocks l19H (orderF l19B) 4) [-1, 0, 0, 0] (orderF l19B) (predsL (succsF l19B) 4)).length = 5 := l19_len
  obtain ⟨ls, hls⟩ : ∃ ls, Hid (ls = builtA (laidA l19F.blocks l19H (orderF l19B) 4) [-1, 0, 0, 0] (orderF l19B) (predsL (succsF l19B) 4)) := ⟨_, hide rfl⟩
  have hphi : ls[3]? = some ⟨3, 3, -1, [2, 1], [1, 2]⟩ := by rw [hls.out]; exact l19_phi hI
  rw [← hls.out] at hOw hlen ⊢
  rw [hlen]
  obtain ⟨go, hgo⟩ : ∃ go, A = some ⟨go, 0, none⟩ := by
    obtain ⟨g, cap, hv, -, -⟩ := hOw.row.form (by rw [hlen]; omega)
    simp only [Value.slice.injEq] at hv
    exact ⟨g, hv.1⟩
  subst hgo
  rw [hlen] at hOw
  obtain ⟨e3, he3⟩ := hOw.at_ hphi
  obtain ⟨w0, -, -, w3, -⟩ := hOw.cells hphi he3
  have w0 : X.cell? ⟨go, 15, none⟩ = some (.int .i64 3) := w0
  have w3 : X.cell? ⟨go, 18, none⟩ = some e3.d := w3
  obtain ⟨hdI, -⟩ := hOw.inn 3 _ _ hphi he3
  have hdI : OwnI X W.heap.size e3.d [2, 1] := hdI
  obtain ⟨Ad, Cd, hd⟩ := row_form hdI.row
  have hd : e3.d = .slice Ad 2 Cd := hd
  rw [hd] at w3 hdI
  have hs1 := hb1.size
  have hN1 : OwnI (X.alloc (.cells #[.int .i64 2, .int .i64 1] 3)) W.heap.size (.slice (some ⟨X.heap.size, 0, none⟩) 2 2) [2, 1] := own_lit rfl rfl (by decide) rfl hs1 (by decide)
  have hc1 := hide (ints_same (hdI.below (bk X (.cells #[.int .i64 2, .int .i64 1] 3))) hN1)
  have hk1 : Below W.heap.size W (X.alloc (.cells #[.int .i64 2, .int .i64 1] 3)) := hb1.alloc hs1 _
  replace hOw := hide hOw
  replace he3 := hide he3
  replace hphi := hide hphi
  replace hdI := hide hdI
  replace hd := hide hd
  replace hN1 := hide hN1
  replace hlen := hide hlen
  go_wp2_with (fail)
  refine hc1.out.mono ?_
  rintro e X2 ⟨rfl, hb2⟩
  have hk2 := hk1.trans (hb2.mono hk1.size)
  have hs2 := hk2.size
  go_wp2_with (fail)
  refine (cE.out _ hk2).mono ?_
  rintro e X3 ⟨ge, l2, rfl, hI2, hN, hb3⟩
  have hl2 := l19_up (hI2 (by decide))
  subst hl2
  have hN3 : OwnI X3 X2.heap.size (.slice (some ⟨ge, 0, none⟩) 4 4) [1, 2, 1, 3] := by
    have e := l19_ends hI
    have h := hN
    rw [show l19F.blocks = l19B from rfl, e] at h
    exact ⟨h, by decide⟩
  have hk3 := hk2.trans (hb3.mono hs2)
  have hs3 := hk3.size
  have hN4 : OwnI (X3.alloc (.cells #[.int .i64 1, .int .i64 2, .int .i64 1, .int .i64 3] 3)) W.heap.size (.slice (some ⟨X3.heap.size, 0, none⟩) 4 4) [1, 2, 1, 3] := own_lit rfl rfl (by decide) rfl hs3 (by decide)
  have hc3 := hide (ints_same (hN3.below (bk X3 (.cells #[.int .i64 1, .int .i64 2, .int .i64 1, .int .i64 3] 3))) hN4)
  have hk4 : Below W.heap.size W (X3.alloc (.cells #[.int .i64 1, .int .i64 2, .int .i64 1, .int .i64 3] 3)) := hk3.alloc hs3 _
  replace hN := hide hN
  replace hN3 := hide hN3
  replace hN4 := hide hN4
  replace hI2 := hide hI2
  replace hI := hide hI
  go_wp2_with (fail)
  refine hc3.out.mono ?_
  rintro e X5 ⟨rfl, hb5⟩
  have hfin := hide (hwW.out.trans ((hk4.trans (hb5.mono hk4.size)).mono hsz))
  go_wp2
  go_ret
  exact ⟨rfl, hfin.out⟩
end Go.Proofs.Ytidjaohlaljmpaa
