/- lathelaw02.lives. No condition. -/
import Derived.Test.YtaljdbmmjgmbbaaIrG
namespace Go.Proofs.Ytaljdbmmjgmbbaa
open Go.RowKit

def liveI : Ins := ⟨1, 7, 8, 0, 0, [⟨1, 0, 0⟩, ⟨1, 7, 0⟩], []⟩
def liveF : Fun := ⟨⟨#[]⟩, [8, 8], 8, [[liveI]]⟩

theorem live_fresh : IsFresh liveF.blocks.flatten 2 2 := ⟨by omega, by decide, fun r h1 h2 => by omega⟩
theorem live_def {i j : Nat} (h : IsDef liveF.blocks 7 i j) : i = 0 ∧ j = 0 := by
  obtain ⟨x, ins, hx, hi, _, _⟩ := h
  have h1 := (List.getElem?_eq_some_iff.1 hx).1
  have h2 : i = 0 := by have : i < 1 := h1; omega
  subst h2
  have h3 : x = [liveI] := by injection hx with hx; exact hx.symm
  subst h3
  have h4 := (List.getElem?_eq_some_iff.1 hi).1
  have : j < 1 := h4
  exact ⟨rfl, by omega⟩

set_option maxHeartbeats 1600000 in
theorem lives02 (w : World) : Calls Try.prog 22 #[] w fun e w' => e = .returned (.bool true) ∧ Below w.heap.size w w' := by
  obtain ⟨W, hW, hwW, hWs, -, -, -, -, hx⟩ := boxes5 w #[.int .i64 8, .int .i64 8] #[.int .i64 1, .int .i64 0, .int .u64 0, .int .i64 1, .int .i64 7, .int .u64 0]
    #[.int .i64 1, .int .i64 7, .int .i64 8, .int .i64 0, .int .i64 0, .slice (some ⟨w.heap.size + 1, 0, none⟩) 2 2, .slice none 0 0] #[.slice (some ⟨w.heap.size + 1 + 1, 0, none⟩) 1 1]
    #[.string ⟨#[]⟩, .slice (some ⟨w.heap.size, 0, none⟩) 2 2, .int .i64 8, .slice (some ⟨w.heap.size + 1 + 1 + 1, 0, none⟩) 1 1] 3 28 44 41 25
  have x0 := hx 0 _ rfl
  have x1 := hx 1 _ rfl
  have x2 := hx 2 _ rfl
  have x3 := hx 3 _ rfl
  clear hx
  have e0 : W.heap[w.heap.size]? = some (.cells #[.int .i64 8, .int .i64 8] 3 (0, 0)) := by rw [← hW]; exact one_alloc (one_alloc (one_alloc (one_alloc (box_top _ _) _) _) _) _
  have s1 : ∀ o1, (w.alloc o1).heap.size = w.heap.size + 1 := fun _ => by simp
  have s2 : ∀ o1 o2, ((w.alloc o1).alloc o2).heap.size = w.heap.size + 1 + 1 := fun _ _ => by simp
  have s3 : ∀ o1 o2 o3, (((w.alloc o1).alloc o2).alloc o3).heap.size = w.heap.size + 1 + 1 + 1 := fun _ _ _ => by simp
  have e1 : W.heap[w.heap.size + 1]? = some (.cells #[.int .i64 1, .int .i64 0, .int .u64 0, .int .i64 1, .int .i64 7, .int .u64 0] 28 (0, 0)) := by
    rw [← hW]; refine one_alloc (one_alloc (one_alloc ?_ _) _) _; have := box_top (w.alloc (.cells #[.int .i64 8, .int .i64 8] 3)) (.cells #[.int .i64 1, .int .i64 0, .int .u64 0, .int .i64 1, .int .i64 7, .int .u64 0] 28); rw [s1] at this; exact this
  have e2 : W.heap[w.heap.size + 1 + 1]? = some (.cells #[.int .i64 1, .int .i64 7, .int .i64 8, .int .i64 0, .int .i64 0, .slice (some ⟨w.heap.size + 1, 0, none⟩) 2 2, .slice none 0 0] 44 (0, 0)) := by
    rw [← hW]; refine one_alloc (one_alloc ?_ _) _; rw [← s2 (.cells #[.int .i64 8, .int .i64 8] 3) (.cells #[.int .i64 1, .int .i64 0, .int .u64 0, .int .i64 1, .int .i64 7, .int .u64 0] 28)]; exact box_top _ _
  have e3 : W.heap[w.heap.size + 1 + 1 + 1]? = some (.cells #[.slice (some ⟨w.heap.size + 1 + 1, 0, none⟩) 1 1] 41 (0, 0)) := by
    rw [← hW]; refine one_alloc ?_ _; rw [← s3 (.cells #[.int .i64 8, .int .i64 8] 3) (.cells #[.int .i64 1, .int .i64 0, .int .u64 0, .int .i64 1, .int .i64 7, .int .u64 0] 28) (.cells #[.int .i64 1, .int .i64 7, .int .i64 8, .int .i64 0, .int .i64 0, .slice (some ⟨w.heap.size + 1, 0, none⟩) 2 2, .slice none 0 0] 44)]; exact box_top _ _
  clear s1 s2 s3
  have hml : ∀ n, n ≤ 8 → n ≤ maxLen := fun n hn => by unfold maxLen; omega
  have rp : RInts.rep W W.heap.size [.slice (some ⟨w.heap.size, 0, none⟩) 2 2] liveF.params := slice_mk (xs := ([8, 8] : List Int)) (by omega) e0 (Nat.le_refl _) (hml _ (by simp)) (fun i x hx => by
    have : i = 0 ∨ i = 1 := by have := (List.getElem?_eq_some_iff.1 hx).1; simp at this; omega
    rcases this with rfl | rfl <;> (injection hx with hx; subst hx; exact ⟨[.int .i64 8], rfl, ⟨rfl, by decide⟩, rfl⟩))
  have ra : ROpds.rep W W.heap.size [.slice (some ⟨w.heap.size + 1, 0, none⟩) 2 2] liveI.args := slice_mk (xs := ([⟨1, 0, 0⟩, ⟨1, 7, 0⟩] : List Opd)) (by omega) e1 (Nat.le_refl _) (hml _ (by simp)) (fun i x hx => by
    have : i = 0 ∨ i = 1 := by have := (List.getElem?_eq_some_iff.1 hx).1; simp at this; omega
    rcases this with rfl | rfl
    · injection hx with hx; subst hx; exact ⟨[.int .i64 1, .int .i64 0, .int .u64 0], rfl, ⟨rfl, by decide, by decide⟩, rfl⟩
    · injection hx with hx; subst hx; exact ⟨[.int .i64 1, .int .i64 7, .int .u64 0], rfl, ⟨rfl, by decide, by decide⟩, rfl⟩)
  have ri : RBlk.rep W W.heap.size [.slice (some ⟨w.heap.size + 1 + 1, 0, none⟩) 1 1] [liveI] := slice_mk (xs := [liveI]) (by omega) e2 (Nat.le_refl _) (hml _ (by simp)) (fun i x hx => by
    have : i = 0 := by have := (List.getElem?_eq_some_iff.1 hx).1; simp at this; omega
    subst this
    injection hx with hx; subst hx
    exact ⟨_, rfl, ⟨.slice (some ⟨w.heap.size + 1, 0, none⟩) 2 2, .slice none 0 0, rfl, ra, Rp.nil_rep, by decide, by decide, by decide, by decide, by decide⟩, rfl⟩)
  have rb : RBlks.rep W W.heap.size [.slice (some ⟨w.heap.size + 1 + 1 + 1, 0, none⟩) 1 1] liveF.blocks := slice_mk (xs := [[liveI]]) (by omega) e3 (Nat.le_refl _) (hml _ (by simp)) (fun i x hx => by
    have : i = 0 := by have := (List.getElem?_eq_some_iff.1 hx).1; simp at this; omega
    subst this
    injection hx with hx; subst hx
    exact ⟨[.slice (some ⟨w.heap.size + 1 + 1, 0, none⟩) 1 1], rfl, ri, rfl⟩)
  clear e0 e1 e2 e3 ra ri hml
  have hsz : w.heap.size ≤ W.heap.size := by omega
  replace hWs := hide hWs
  replace rp := hide rp
  replace rb := hide rb
  have hself := Below.refl W.heap.size W
  go_enter Try.func22, Try.ntmps22
  go_wp2_with fail
  clear hW
  refine (def_any liveF 7 _ _ W W.heap.size (Nat.le_refl _) rp.out rb.out).mono ?_
  rintro e w1 ⟨i, j, fd, rfl, b1, hfd1, hfd2⟩
  have hfd : fd = true := by
    cases fd with
    | true => rfl
    | false => exact absurd ((hfd2 rfl).2.2 liveI (by simp [liveF])) (by decide)
  subst hfd
  obtain ⟨rfl, rfl⟩ := live_def (hfd1 rfl)
  clear hfd1 hfd2
  have hal : ∀ o, Below W.heap.size W (w1.alloc o) := fun o => b1.alloc b1.size o
  go_wp2_with fail
  obtain ⟨V, hV, hwV, hVs, hp⟩ := boxes1 w1 #[.int .i64 0, .int .i64 0, .int .i64 0] 58
  have bV : Below W.heap.size W V := by rw [← hV]; exact hal _
  have y0 : ∀ w', Below V.heap.size V w' → w'.cell? ⟨w1.heap.size, 0, none⟩ = some (.int .i64 0) := hp 0 _ rfl
  have y1 : ∀ w', Below V.heap.size V w' → w'.cell? ⟨w1.heap.size, 1, none⟩ = some (.int .i64 0) := hp 1 _ rfl
  have y2 : ∀ w', Below V.heap.size V w' → w'.cell? ⟨w1.heap.size, 2, none⟩ = some (.int .i64 0) := hp 2 _ rfl
  have hVsz := bV.size
  replace hVs := hide hVs
  rw [hV]
  clear hV hal
  have FR : ∀ w', Below W.heap.size W w' → Calls Try.prog 59 #[.agg #[.string ⟨#[]⟩, .slice (some ⟨w.heap.size, 0, none⟩) 2 2, .int .i64 8, .slice (some ⟨w.heap.size + 1 + 1 + 1, 0, none⟩) 1 1]] w' fun e w2 => e = .returned (.int .i64 2) ∧ Below w'.heap.size w' w2 :=
    fun w' hb => fresh_any liveF 2 _ _ w' W.heap.size hb.size (RInts.later rp.out hb (Nat.le_refl _)) (RBlks.later rb.out hb (Nat.le_refl _)) (by decide) live_fresh (by omega)
  have SZ : ∀ w', Below W.heap.size W w' → Calls Try.prog 33 #[.agg #[.string ⟨#[]⟩, .slice (some ⟨w.heap.size, 0, none⟩) 2 2, .int .i64 8, .slice (some ⟨w.heap.size + 1 + 1 + 1, 0, none⟩) 1 1]] w' fun e w2 => e = .returned (.int .i64 1) ∧ Below w'.heap.size w' w2 :=
    fun w' hb => size_any liveF _ _ w' W.heap.size hb.size (RInts.later rp.out hb (Nat.le_refl _)) (RBlks.later rb.out hb (Nat.le_refl _)) (by decide)
  have US : ∀ w', Below W.heap.size W w' → Calls Try.prog 29 #[.agg #[.string ⟨#[]⟩, .slice (some ⟨w.heap.size, 0, none⟩) 2 2, .int .i64 8, .slice (some ⟨w.heap.size + 1 + 1 + 1, 0, none⟩) 1 1], .int .i64 7] w' fun e w2 => e = .returned (.int .i64 1) ∧ Below w'.heap.size w' w2 :=
    fun w' hb => uses_any liveF 7 _ _ w' W.heap.size hb.size (RInts.later rp.out hb (Nat.le_refl _)) (RBlks.later rb.out hb (Nat.le_refl _)) (by decide)
  replace FR := hide FR
  replace SZ := hide SZ
  replace US := hide US
  have vself := Below.refl V.heap.size V
  refine (FR.out V bV).mono ?_
  rintro e w2 ⟨rfl, c2⟩
  have b2 := c2
  have d2 := below_next bV (Nat.le_refl _) c2
  go_wp2_with fail
  refine (SZ.out _ d2).mono ?_
  rintro e w3 ⟨rfl, c3⟩
  have b3 := below_next b2 (Nat.le_refl _) c3
  have d3 := below_next d2 (Nat.le_refl _) c3
  go_wp2_with fail
  refine (US.out _ d3).mono ?_
  rintro e w4 ⟨rfl, c4⟩
  have d4 := below_next d3 (Nat.le_refl _) c4
  have k1 : icalm 24 = true := by decide
  have k2 : icalm 4 = false := by decide
  go_wp2_with fail
  refine (calm_any 24 _).mono ?_
  rintro e w5 ⟨rfl, rfl⟩
  go_wp2_with fail
  refine (calm_any 4 _).mono ?_
  rintro e w6 ⟨rfl, rfl⟩
  go_wp2
  go_ret
  exact ⟨ret_bool (by simp), hwW.trans (d4.mono hsz)⟩
end Go.Proofs.Ytaljdbmmjgmbbaa
