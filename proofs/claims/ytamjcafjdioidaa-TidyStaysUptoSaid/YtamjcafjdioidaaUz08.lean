/- Texts of the chain, without what is not wanted: Del. No condition but sizes. -/
import Derived.WalkKit
import Derived.Deep.Slices
import Derived.Deep.Draws
import Derived.ChangeSame
import Derived.ChangeOld
import Derived.OwnWalk
import Derived.Laws.OwnMore
import Derived.Deep.AppendLies
import Derived.Test.YtamjcafjdioidaaRows
import Derived.ProofKit
import Derived.OpenShut
import Derived.JoinedCond
import Derived.WalkSpells
import Derived.WalkLawsBesides
import Derived.Deep.RegionHeld3
import Derived.Deep.LoopGhost
import Derived.Deep.QuietTactic
import Derived.BigQuiet
import Derived.Lib.SliceRun
import Derived.Laws.IdiomCopy
import Derived.Deep.DeepCutAuto
import Derived.Deep.CutBlock
import Derived.Deep.RegionLaw
import Derived.Test.YtamjcafjdioidaaUz01
import Derived.Test.YtamjcafjdioidaaUz02
import Derived.Test.YtamjcafjdioidaaUz04
import Derived.Test.YtamjcafjdioidaaUz07
namespace Go.Proofs.Ytamjcafjdioidaa
open Go.RowKit
set_option linter.unusedSimpArgs false
set_option linter.unusedVariables false
def DelPost (T : TypeId) (s g n C i B : Nat) (xs Z : List Value) (w : World) (e : Ending) (w' : World) : Prop := e = .returned (.slice (some ⟨g, 0, none⟩) (n - 1) C) ∧ w'.ownsRow B T s (.slice (some ⟨g, 0, none⟩) n C) n (xs.take (i * s) ++ xs.drop ((i + 1) * s) ++ Z) ∧ Only (fun k => k = g) w.heap.size w w'
theorem zero_delete_ints (w : World) : (zeroValue 3).run Try.prog w = .ok (.int .i64 0) w := by kernel_rfl
set_option maxRecDepth 100000 in
set_option maxHeartbeats 3200000 in
theorem delete_ints (g n C i B : Nat) (xs : List Value) (w : World) (h : w.ownsRow B 3 1 (.slice (some ⟨g, 0, none⟩) n C) n xs) (j : Nat) (hj : j = i + 1) (hi : i < n) (hone : ∀ u, u ∈ xs → u.oneCell' = true) :
  Calls Try.prog 84 #[.slice (some ⟨g, 0, none⟩) n C, .int .i64 i, .int .i64 j] w (DelPost 3 1 g n C i B xs [.int .i64 0] w) := by
 obtain ⟨i0, hi0, hz0, hz1, hz2⟩ := cinfo_parts cinfo_int
 replace hi0 := hide hi0
 replace hz1 := hide hz1
 obtain ⟨hgB, hgw, -⟩ := row_lt h rfl
 have hC : n ≤ C ∧ C ≤ 9223372036854775807 := by
  rcases h.2 with ⟨e, -⟩ | ⟨g', cap, cur, e, -, -, h1, h2, -⟩
  ·cases e
  ·cases e; exact ⟨h1, h2⟩
 obtain ⟨hnC, hCm⟩ := hC
 have hxl := h.1
 obtain ⟨news, hnews⟩ : ∃ news, Hid (news = xs.drop ((i + 1) * 1)) := ⟨_, hide rfl⟩
 have hn : Hid (news.length = (n - j) * 1) := hide (by rw [hnews.out, List.length_drop]; omega)
 have hn1 : Hid (∀ u ∈ news, u.oneCell' = true) := hide (fun u hu => hone u (by rw [hnews.out] at hu; exact List.mem_of_mem_drop hu))
 obtain ⟨U, hUe⟩ : ∃ U, Hid (w.drew = U) := ⟨_, hide rfl⟩
 have hU : Hid (U = U) := hide rfl
 have hrU : Hid (U.ownsRow B 3 1 (.slice (some ⟨g, 0, none⟩) n C) n xs) := hide (by rw [← hUe.out]; exact h)
 have hoU : Hid (Only (fun k => k = g) w.heap.size w U) := hide (by rw [← hUe.out]; exact (Only.refl _ _ _).drew)
 obtain ⟨A, hA, hA2⟩ : ∃ A : Addr, (if C = j then (some ⟨g, 0, none⟩ : Option Addr) else some ⟨g, j, none⟩) = some A ∧ Hid (∀ t u, news[t]? = some u → U.cell? (A.add t) = some u) := by
  by_cases hc : C = j
  ·refine ⟨⟨g, 0, none⟩, by rw [if_pos hc], hide fun t u hu => ?_⟩
   have h1 := (List.getElem?_eq_some_iff.1 hu).1
   have h2 := hn.out
   have h3 : n - j = 0 := by omega
   rw [h3] at h2
   omega
  ·refine ⟨⟨g, j, none⟩, by rw [if_neg hc], hide fun t u hu => ?_⟩
   have h1 := (List.getElem?_eq_some_iff.1 hu).1
   have h2 := hn.out
   have ha : (⟨g, j, none⟩ : Addr).add t = ⟨g, j + t, none⟩ := by unfold Addr.add; split <;> simp_all
   rw [ha, World.ownsRow.cellAt hrU.out (j + t) (by omega)]
   rw [hnews.out, List.getElem?_drop] at hu
   rw [hj]
   simpa using hu
 have hsp : Hid (∀ j, j < news.length → (U.cell? ⟨g, 0 + i * 1 + j, none⟩).isSome = true ∧ U.frozen? ⟨g, 0 + i * 1 + j, none⟩ = false) := hide (fun q hq => by
  have h2 := hn.out
  rw [Nat.zero_add]
  exact row_cells hrU.out (by omega))
 obtain ⟨V, hV⟩ : ∃ V, Hid (U.setCells g (0 + i * 1) news = V) := ⟨_, hide rfl⟩
 have hrV : Hid (V.ownsRow B 3 1 (.slice (some ⟨g, 0, none⟩) n C) n (patch xs (i) news)) := hide (by
  have h9 := row_setCells news (0 + i * 1) _ _ hrU.out
  rw [hV.out] at h9
  simpa only [Nat.zero_add, Nat.mul_one] using h9)
 have hoV : Hid (Only (fun k => k = g) w.heap.size w V) := hide (by rw [← hV.out]; exact only_setCells (S := fun k => k = g) rfl _ _ _ hoU.out)
 have hcl : ∀ ty, (Builtin.clear_ #[29] ty #[.slice (some ⟨g, (i + (n - j)), none⟩) 1 (C - (i + (n - j)))]).run Try.prog V = .ok (.tuple #[]) (V.setCells g ((i + (n - j))) [.int .i64 0]) := fun ty =>
  run_clear_one V _ _ ty _ [.int .i64 0] Try.underlying29 zero_delete_ints (by kernel_rfl) (by simp [Value.oneCell']) g _ _ (fun j hj => (row_cells hrV.out (by simp at hj; omega)).1) (fun j hj => (row_cells hrV.out (by simp at hj; omega)).2)
 have hfin : Hid (DelPost 3 1 g n C i B xs [.int .i64 0] w (.returned (.slice (some ⟨g, 0, none⟩) (i + (n - j)) C)) (V.setCells g ((i + (n - j))) [.int .i64 0])) := hide (by
  refine ⟨by rw [show i + (n - j) = n - 1 by omega], ?_, only_setCells (S := fun k => k = g) rfl _ _ _ hoV.out⟩
  have h1 := row_setCells [.int .i64 0] ((i + (n - j))) _ _ hrV.out
  rw [hnews.out] at h1
  rw [show i + (n - j) = n - 1 by omega] at h1 ⊢
  rw [← patch_del (Z := [.int .i64 0]) hxl hi rfl]
  simp only [Nat.mul_one] at h1 ⊢
  exact h1)
 have hne2 : ((i : Int) == (j : Int)) = false := by rw [beq_eq_false_iff_ne]; omega
 have hiC : i ≤ C := by omega
 have hi1 : j ≤ n := by omega
 have hi2 : j ≤ C := by omega
 have hi3 : i ≤ j := by omega
 have hi4 : i + (n - j) ≤ n := by omega
 have hi5 : n - (i + (n - j)) = 1 := by omega
 have hi7 : ¬ (C = i + (n - j)) := by omega
 replace hj := hide hj
 clear h hxl hone
 go_enter Try.func84, Try.ntmps84
 go_upto_region 5 with (fail)
 refine wp_region_U (S := fun u => u = U) (T := fun j => decide (j < 6)) (by kernel_rfl) ?_
 rw [hUe.out]
 refine wpAnyU_take (i := 0) (v := ?_) (by simp only [List.getElem?_toArray, List.getElem?_cons_succ, List.getElem?_cons_zero]; rfl) (by kernel_rfl) (by kernel_rfl) (by kernel_rfl) (by kernel_rfl) (by exact fun _ _ _ h => h) (Or.inl ⟨by rfl, ?_⟩) (by exact hU.out) ?_
 rotate_left
 ·intro w9 hSw
  go_simp
  all_goals with_reducible rfl
 try simp only [Act.put, List.setIfInBounds_toArray, List.set_cons_zero, List.set_cons_succ]
 refine wpAnyU_take (i := 1) (v := ?_) (by simp only [List.getElem?_toArray, List.getElem?_cons_succ, List.getElem?_cons_zero]; rfl) (by kernel_rfl) (by kernel_rfl) (by kernel_rfl) (by kernel_rfl) (by exact fun _ _ _ h => h) (Or.inl ⟨by rfl, ?_⟩) (by exact hU.out) ?_
 rotate_left
 ·intro w9 hSw
  go_simp
  all_goals with_reducible rfl
 try simp only [Act.put, List.setIfInBounds_toArray, List.set_cons_zero, List.set_cons_succ]
 refine wpAnyU_take (i := 2) (v := ?_) (by simp only [List.getElem?_toArray, List.getElem?_cons_succ, List.getElem?_cons_zero]; rfl) (by kernel_rfl) (by kernel_rfl) (by kernel_rfl) (by kernel_rfl) (by exact fun _ _ _ h => h) (Or.inl ⟨by rfl, ?_⟩) (by exact hU.out) ?_
 rotate_left
 ·intro w9 hSw
  go_simp
  all_goals with_reducible rfl
 try simp only [Act.put, List.setIfInBounds_toArray, List.set_cons_zero, List.set_cons_succ]
 refine wpAnyU_take (i := 3) (v := ?_) (by simp only [List.getElem?_toArray, List.getElem?_cons_succ, List.getElem?_cons_zero]; rfl) (by kernel_rfl) (by kernel_rfl) (by kernel_rfl) (by kernel_rfl) (by exact fun _ _ _ h => h) (Or.inl ⟨by rfl, ?_⟩) (by exact hU.out) ?_
 rotate_left
 ·intro w9 hSw
  go_simp
  all_goals with_reducible rfl
 try simp only [Act.put, List.setIfInBounds_toArray, List.set_cons_zero, List.set_cons_succ]
 refine wpAnyU_take (i := 4) (v := ?_) (by simp only [List.getElem?_toArray, List.getElem?_cons_succ, List.getElem?_cons_zero]; rfl) (by kernel_rfl) (by kernel_rfl) (by kernel_rfl) (by kernel_rfl) (by exact fun _ _ _ h => h) (Or.inl ⟨by rfl, ?_⟩) (by exact hU.out) ?_
 rotate_left
 ·intro w9 hSw
  go_simp
  all_goals with_reducible rfl
 try simp only [Act.put, List.setIfInBounds_toArray, List.set_cons_zero, List.set_cons_succ]
 refine wpAnyU_take (i := 5) (v := ?_) (by simp only [List.getElem?_toArray, List.getElem?_cons_succ, List.getElem?_cons_zero]; rfl) (by kernel_rfl) (by kernel_rfl) (by kernel_rfl) (by kernel_rfl) (by exact fun _ _ _ h => h) (Or.inl ⟨by rfl, ?_⟩) (by exact hU.out) ?_
 rotate_left
 ·intro w9 hSw
  go_simp
  all_goals with_reducible rfl
 try simp only [Act.put, List.setIfInBounds_toArray, List.set_cons_zero, List.set_cons_succ]
 refine wpAnyU_ready (rs := [6]) (by kernel_rfl) (by simp) ?_
 refine AllReadyU.cons (by simp only [List.getElem?_toArray, List.getElem?_cons_succ, List.getElem?_cons_zero]; rfl) (fun K hK => ?_) AllReadyU.nil
 refine step_append_room rfl (.tmp 22) (.tmp 25) 29 rfl 3 i0 1 Try.underlying29 hi0.out hz1.out g 0 i C (by simp [Act.eval, Act.put]) A (n - j) (C - j) news (by simp [Act.eval, Act.put]) hn.out (hA2.out) hn1.out (by omega) hsp.out ?_
 rw [hV.out]
 refine hK.out _ _ (fun h => absurd h (by decide)) ?_
 clear hK K
 try simp only [Act.put, List.setIfInBounds_toArray, List.set_cons_zero, List.set_cons_succ]
 refine wpAnyU_takeY (i := 7) (v := ?_) (by simp only [List.getElem?_toArray, List.getElem?_cons_succ, List.getElem?_cons_zero]; rfl) (by kernel_rfl) (by kernel_rfl) (by kernel_rfl) (by rfl) (by exact fun _ _ _ h => h) (Or.inl ⟨by rfl, ?_⟩) ?_
 rotate_left
 ·intro w9 hSw
  go_simp
  all_goals with_reducible rfl
 try simp only [Act.put, List.setIfInBounds_toArray, List.set_cons_zero, List.set_cons_succ]
 refine wpAnyU_done (by kernel_rfl) ?_ _
 go_wp2
 go_ret
 exact hfin.out
theorem zero_delete_opds (w : World) : (zeroValue 42).run Try.prog w = .ok (.agg #[.int .i64 0, .int .i64 0, .int .u64 0]) w := by kernel_rfl
set_option maxRecDepth 100000 in
set_option maxHeartbeats 3200000 in
theorem delete_opds (g n C i B : Nat) (xs : List Value) (w : World) (h : w.ownsRow B 42 3 (.slice (some ⟨g, 0, none⟩) n C) n xs) (j : Nat) (hj : j = i + 1) (hi : i < n) (hone : ∀ u, u ∈ xs → u.oneCell' = true) :
  Calls Try.prog 85 #[.slice (some ⟨g, 0, none⟩) n C, .int .i64 i, .int .i64 j] w (DelPost 42 3 g n C i B xs [.int .i64 0, .int .i64 0, .int .u64 0] w) := by
 obtain ⟨i0, hi0, hz0, hz1, hz2⟩ := cinfo_parts cinfo_Value
 replace hi0 := hide hi0
 replace hz1 := hide hz1
 obtain ⟨hgB, hgw, -⟩ := row_lt h rfl
 have hC : n ≤ C ∧ C ≤ 9223372036854775807 := by
  rcases h.2 with ⟨e, -⟩ | ⟨g', cap, cur, e, -, -, h1, h2, -⟩
  ·cases e
  ·cases e; exact ⟨h1, h2⟩
 obtain ⟨hnC, hCm⟩ := hC
 have hxl := h.1
 obtain ⟨news, hnews⟩ : ∃ news, Hid (news = xs.drop ((i + 1) * 3)) := ⟨_, hide rfl⟩
 have hn : Hid (news.length = (n - j) * 3) := hide (by rw [hnews.out, List.length_drop]; omega)
 have hn1 : Hid (∀ u ∈ news, u.oneCell' = true) := hide (fun u hu => hone u (by rw [hnews.out] at hu; exact List.mem_of_mem_drop hu))
 obtain ⟨U, hUe⟩ : ∃ U, Hid (w.drew = U) := ⟨_, hide rfl⟩
 have hU : Hid (U = U) := hide rfl
 have hrU : Hid (U.ownsRow B 42 3 (.slice (some ⟨g, 0, none⟩) n C) n xs) := hide (by rw [← hUe.out]; exact h)
 have hoU : Hid (Only (fun k => k = g) w.heap.size w U) := hide (by rw [← hUe.out]; exact (Only.refl _ _ _).drew)
 obtain ⟨A, hA, hA2⟩ : ∃ A : Addr, (if C = j then (some ⟨g, 0, none⟩ : Option Addr) else some ⟨g, j * 3, none⟩) = some A ∧ Hid (∀ t u, news[t]? = some u → U.cell? (A.add t) = some u) := by
  by_cases hc : C = j
  ·refine ⟨⟨g, 0, none⟩, by rw [if_pos hc], hide fun t u hu => ?_⟩
   have h1 := (List.getElem?_eq_some_iff.1 hu).1
   have h2 := hn.out
   have h3 : n - j = 0 := by omega
   rw [h3] at h2
   omega
  ·refine ⟨⟨g, j * 3, none⟩, by rw [if_neg hc], hide fun t u hu => ?_⟩
   have h1 := (List.getElem?_eq_some_iff.1 hu).1
   have h2 := hn.out
   have ha : (⟨g, j * 3, none⟩ : Addr).add t = ⟨g, j * 3 + t, none⟩ := by unfold Addr.add; split <;> simp_all
   rw [ha, World.ownsRow.cellAt hrU.out (j * 3 + t) (by omega)]
   rw [hnews.out, List.getElem?_drop] at hu
   rw [hj]
   simpa using hu
 have hsp : Hid (∀ j, j < news.length → (U.cell? ⟨g, 0 + i * 3 + j, none⟩).isSome = true ∧ U.frozen? ⟨g, 0 + i * 3 + j, none⟩ = false) := hide (fun q hq => by
  have h2 := hn.out
  rw [Nat.zero_add]
  exact row_cells hrU.out (by omega))
 obtain ⟨V, hV⟩ : ∃ V, Hid (U.setCells g (0 + i * 3) news = V) := ⟨_, hide rfl⟩
 have hrV : Hid (V.ownsRow B 42 3 (.slice (some ⟨g, 0, none⟩) n C) n (patch xs (i * 3) news)) := hide (by
  have h9 := row_setCells news (0 + i * 3) _ _ hrU.out
  rw [hV.out] at h9
  simpa only [Nat.zero_add, Nat.mul_one] using h9)
 have hoV : Hid (Only (fun k => k = g) w.heap.size w V) := hide (by rw [← hV.out]; exact only_setCells (S := fun k => k = g) rfl _ _ _ hoU.out)
 have hcl : ∀ ty, (Builtin.clear_ #[37] ty #[.slice (some ⟨g, (i + (n - j)) * 3, none⟩) 1 (C - (i + (n - j)))]).run Try.prog V = .ok (.tuple #[]) (V.setCells g ((i + (n - j)) * 3) [.int .i64 0, .int .i64 0, .int .u64 0]) := fun ty =>
  run_clear_one V _ _ ty _ [.int .i64 0, .int .i64 0, .int .u64 0] Try.underlying37 zero_delete_opds (by kernel_rfl) (by simp [Value.oneCell']) g _ _ (fun j hj => (row_cells hrV.out (by simp at hj; omega)).1) (fun j hj => (row_cells hrV.out (by simp at hj; omega)).2)
 have hfin : Hid (DelPost 42 3 g n C i B xs [.int .i64 0, .int .i64 0, .int .u64 0] w (.returned (.slice (some ⟨g, 0, none⟩) (i + (n - j)) C)) (V.setCells g ((i + (n - j)) * 3) [.int .i64 0, .int .i64 0, .int .u64 0])) := hide (by
  refine ⟨by rw [show i + (n - j) = n - 1 by omega], ?_, only_setCells (S := fun k => k = g) rfl _ _ _ hoV.out⟩
  have h1 := row_setCells [.int .i64 0, .int .i64 0, .int .u64 0] ((i + (n - j)) * 3) _ _ hrV.out
  rw [hnews.out] at h1
  rw [show i + (n - j) = n - 1 by omega] at h1 ⊢
  rw [← patch_del (Z := [.int .i64 0, .int .i64 0, .int .u64 0]) hxl hi rfl]
  exact h1)
 have hne2 : ((i : Int) == (j : Int)) = false := by rw [beq_eq_false_iff_ne]; omega
 have hiC : i ≤ C := by omega
 have hi1 : j ≤ n := by omega
 have hi2 : j ≤ C := by omega
 have hi3 : i ≤ j := by omega
 have hi4 : i + (n - j) ≤ n := by omega
 have hi5 : n - (i + (n - j)) = 1 := by omega
 have hi7 : ¬ (C = i + (n - j)) := by omega
 replace hj := hide hj
 clear h hxl hone
 go_enter Try.func85, Try.ntmps85
 go_upto_region 5 with (fail)
 refine wp_region_U (S := fun u => u = U) (T := fun j => decide (j < 6)) (by kernel_rfl) ?_
 rw [hUe.out]
 refine wpAnyU_take (i := 0) (v := ?_) (by simp only [List.getElem?_toArray, List.getElem?_cons_succ, List.getElem?_cons_zero]; rfl) (by kernel_rfl) (by kernel_rfl) (by kernel_rfl) (by kernel_rfl) (by exact fun _ _ _ h => h) (Or.inl ⟨by rfl, ?_⟩) (by exact hU.out) ?_
 rotate_left
 ·intro w9 hSw
  go_simp
  all_goals with_reducible rfl
 try simp only [Act.put, List.setIfInBounds_toArray, List.set_cons_zero, List.set_cons_succ]
 refine wpAnyU_take (i := 1) (v := ?_) (by simp only [List.getElem?_toArray, List.getElem?_cons_succ, List.getElem?_cons_zero]; rfl) (by kernel_rfl) (by kernel_rfl) (by kernel_rfl) (by kernel_rfl) (by exact fun _ _ _ h => h) (Or.inl ⟨by rfl, ?_⟩) (by exact hU.out) ?_
 rotate_left
 ·intro w9 hSw
  go_simp
  all_goals with_reducible rfl
 try simp only [Act.put, List.setIfInBounds_toArray, List.set_cons_zero, List.set_cons_succ]
 refine wpAnyU_take (i := 2) (v := ?_) (by simp only [List.getElem?_toArray, List.getElem?_cons_succ, List.getElem?_cons_zero]; rfl) (by kernel_rfl) (by kernel_rfl) (by kernel_rfl) (by kernel_rfl) (by exact fun _ _ _ h => h) (Or.inl ⟨by rfl, ?_⟩) (by exact hU.out) ?_
 rotate_left
 ·intro w9 hSw
  go_simp
  all_goals with_reducible rfl
 try simp only [Act.put, List.setIfInBounds_toArray, List.set_cons_zero, List.set_cons_succ]
 refine wpAnyU_take (i := 3) (v := ?_) (by simp only [List.getElem?_toArray, List.getElem?_cons_succ, List.getElem?_cons_zero]; rfl) (by kernel_rfl) (by kernel_rfl) (by kernel_rfl) (by kernel_rfl) (by exact fun _ _ _ h => h) (Or.inl ⟨by rfl, ?_⟩) (by exact hU.out) ?_
 rotate_left
 ·intro w9 hSw
  go_simp
  all_goals with_reducible rfl
 try simp only [Act.put, List.setIfInBounds_toArray, List.set_cons_zero, List.set_cons_succ]
 refine wpAnyU_take (i := 4) (v := ?_) (by simp only [List.getElem?_toArray, List.getElem?_cons_succ, List.getElem?_cons_zero]; rfl) (by kernel_rfl) (by kernel_rfl) (by kernel_rfl) (by kernel_rfl) (by exact fun _ _ _ h => h) (Or.inl ⟨by rfl, ?_⟩) (by exact hU.out) ?_
 rotate_left
 ·intro w9 hSw
  go_simp
  all_goals with_reducible rfl
 try simp only [Act.put, List.setIfInBounds_toArray, List.set_cons_zero, List.set_cons_succ]
 refine wpAnyU_take (i := 5) (v := ?_) (by simp only [List.getElem?_toArray, List.getElem?_cons_succ, List.getElem?_cons_zero]; rfl) (by kernel_rfl) (by kernel_rfl) (by kernel_rfl) (by kernel_rfl) (by exact fun _ _ _ h => h) (Or.inl ⟨by rfl, ?_⟩) (by exact hU.out) ?_
 rotate_left
 ·intro w9 hSw
  go_simp
  all_goals with_reducible rfl
 try simp only [Act.put, List.setIfInBounds_toArray, List.set_cons_zero, List.set_cons_succ]
 refine wpAnyU_ready (rs := [6]) (by kernel_rfl) (by simp) ?_
 refine AllReadyU.cons (by simp only [List.getElem?_toArray, List.getElem?_cons_succ, List.getElem?_cons_zero]; rfl) (fun K hK => ?_) AllReadyU.nil
 refine step_append_room rfl (.tmp 22) (.tmp 25) 37 rfl 42 i0 3 Try.underlying37 hi0.out hz1.out g 0 i C (by simp [Act.eval, Act.put]) A (n - j) (C - j) news (by simp [Act.eval, Act.put]) hn.out (hA2.out) hn1.out (by omega) hsp.out ?_
 rw [hV.out]
 refine hK.out _ _ (fun h => absurd h (by decide)) ?_
 clear hK K
 try simp only [Act.put, List.setIfInBounds_toArray, List.set_cons_zero, List.set_cons_succ]
 refine wpAnyU_takeY (i := 7) (v := ?_) (by simp only [List.getElem?_toArray, List.getElem?_cons_succ, List.getElem?_cons_zero]; rfl) (by kernel_rfl) (by kernel_rfl) (by kernel_rfl) (by rfl) (by exact fun _ _ _ h => h) (Or.inl ⟨by rfl, ?_⟩) ?_
 rotate_left
 ·intro w9 hSw
  go_simp
  all_goals with_reducible rfl
 try simp only [Act.put, List.setIfInBounds_toArray, List.set_cons_zero, List.set_cons_succ]
 refine wpAnyU_done (by kernel_rfl) ?_ _
 go_wp2
 go_ret
 exact hfin.out
theorem zero_delete_ins (w : World) : (zeroValue 39).run Try.prog w = .ok (.agg #[.int .i64 0, .int .i64 0, .int .i64 0, .int .i64 0, .int .i64 0, .slice none 0 0, .slice none 0 0]) w := by kernel_rfl
set_option maxRecDepth 100000 in
set_option maxHeartbeats 3200000 in
theorem delete_ins (g n C i B : Nat) (xs : List Value) (w : World) (h : w.ownsRow B 39 7 (.slice (some ⟨g, 0, none⟩) n C) n xs) (j : Nat) (hj : j = i + 1) (hi : i < n) (hone : ∀ u, u ∈ xs → u.oneCell' = true) :
  Calls Try.prog 57 #[.slice (some ⟨g, 0, none⟩) n C, .int .i64 i, .int .i64 j] w (DelPost 39 7 g n C i B xs [.int .i64 0, .int .i64 0, .int .i64 0, .int .i64 0, .int .i64 0, .slice none 0 0, .slice none 0 0] w) := by
 obtain ⟨i0, hi0, hz0, hz1, hz2⟩ := cinfo_parts cinfo_Instr
 replace hi0 := hide hi0
 replace hz1 := hide hz1
 obtain ⟨hgB, hgw, -⟩ := row_lt h rfl
 have hC : n ≤ C ∧ C ≤ 9223372036854775807 := by
  rcases h.2 with ⟨e, -⟩ | ⟨g', cap, cur, e, -, -, h1, h2, -⟩
  ·cases e
  ·cases e; exact ⟨h1, h2⟩
 obtain ⟨hnC, hCm⟩ := hC
 have hxl := h.1
 obtain ⟨news, hnews⟩ : ∃ news, Hid (news = xs.drop ((i + 1) * 7)) := ⟨_, hide rfl⟩
 have hn : Hid (news.length = (n - j) * 7) := hide (by rw [hnews.out, List.length_drop]; omega)
 have hn1 : Hid (∀ u ∈ news, u.oneCell' = true) := hide (fun u hu => hone u (by rw [hnews.out] at hu; exact List.mem_of_mem_drop hu))
 obtain ⟨U, hUe⟩ : ∃ U, Hid (w.drew = U) := ⟨_, hide rfl⟩
 have hU : Hid (U = U) := hide rfl
 have hrU : Hid (U.ownsRow B 39 7 (.slice (some ⟨g, 0, none⟩) n C) n xs) := hide (by rw [← hUe.out]; exact h)
 have hoU : Hid (Only (fun k => k = g) w.heap.size w U) := hide (by rw [← hUe.out]; exact (Only.refl _ _ _).drew)
 obtain ⟨A, hA, hA2⟩ : ∃ A : Addr, (if C = j then (some ⟨g, 0, none⟩ : Option Addr) else some ⟨g, j * 7, none⟩) = some A ∧ Hid (∀ t u, news[t]? = some u → U.cell? (A.add t) = some u) := by
  by_cases hc : C = j
  ·refine ⟨⟨g, 0, none⟩, by rw [if_pos hc], hide fun t u hu => ?_⟩
   have h1 := (List.getElem?_eq_some_iff.1 hu).1
   have h2 := hn.out
   have h3 : n - j = 0 := by omega
   rw [h3] at h2
   omega
  ·refine ⟨⟨g, j * 7, none⟩, by rw [if_neg hc], hide fun t u hu => ?_⟩
   have h1 := (List.getElem?_eq_some_iff.1 hu).1
   have h2 := hn.out
   have ha : (⟨g, j * 7, none⟩ : Addr).add t = ⟨g, j * 7 + t, none⟩ := by unfold Addr.add; split <;> simp_all
   rw [ha, World.ownsRow.cellAt hrU.out (j * 7 + t) (by omega)]
   rw [hnews.out, List.getElem?_drop] at hu
   rw [hj]
   simpa using hu
 have hsp : Hid (∀ j, j < news.length → (U.cell? ⟨g, 0 + i * 7 + j, none⟩).isSome = true ∧ U.frozen? ⟨g, 0 + i * 7 + j, none⟩ = false) := hide (fun q hq => by
  have h2 := hn.out
  rw [Nat.zero_add]
  exact row_cells hrU.out (by omega))
 obtain ⟨V, hV⟩ : ∃ V, Hid (U.setCells g (0 + i * 7) news = V) := ⟨_, hide rfl⟩
 have hrV : Hid (V.ownsRow B 39 7 (.slice (some ⟨g, 0, none⟩) n C) n (patch xs (i * 7) news)) := hide (by
  have h9 := row_setCells news (0 + i * 7) _ _ hrU.out
  rw [hV.out] at h9
  simpa only [Nat.zero_add, Nat.mul_one] using h9)
 have hoV : Hid (Only (fun k => k = g) w.heap.size w V) := hide (by rw [← hV.out]; exact only_setCells (S := fun k => k = g) rfl _ _ _ hoU.out)
 have hcl : ∀ ty, (Builtin.clear_ #[34] ty #[.slice (some ⟨g, (i + (n - j)) * 7, none⟩) 1 (C - (i + (n - j)))]).run Try.prog V = .ok (.tuple #[]) (V.setCells g ((i + (n - j)) * 7) [.int .i64 0, .int .i64 0, .int .i64 0, .int .i64 0, .int .i64 0, .slice none 0 0, .slice none 0 0]) := fun ty =>
  run_clear_one V _ _ ty _ [.int .i64 0, .int .i64 0, .int .i64 0, .int .i64 0, .int .i64 0, .slice none 0 0, .slice none 0 0] Try.underlying34 zero_delete_ins (by kernel_rfl) (by simp [Value.oneCell']) g _ _ (fun j hj => (row_cells hrV.out (by simp at hj; omega)).1) (fun j hj => (row_cells hrV.out (by simp at hj; omega)).2)
 have hfin : Hid (DelPost 39 7 g n C i B xs [.int .i64 0, .int .i64 0, .int .i64 0, .int .i64 0, .int .i64 0, .slice none 0 0, .slice none 0 0] w (.returned (.slice (some ⟨g, 0, none⟩) (i + (n - j)) C)) (V.setCells g ((i + (n - j)) * 7) [.int .i64 0, .int .i64 0, .int .i64 0, .int .i64 0, .int .i64 0, .slice none 0 0, .slice none 0 0])) := hide (by
  refine ⟨by rw [show i + (n - j) = n - 1 by omega], ?_, only_setCells (S := fun k => k = g) rfl _ _ _ hoV.out⟩
  have h1 := row_setCells [.int .i64 0, .int .i64 0, .int .i64 0, .int .i64 0, .int .i64 0, .slice none 0 0, .slice none 0 0] ((i + (n - j)) * 7) _ _ hrV.out
  rw [hnews.out] at h1
  rw [show i + (n - j) = n - 1 by omega] at h1 ⊢
  rw [← patch_del (Z := [.int .i64 0, .int .i64 0, .int .i64 0, .int .i64 0, .int .i64 0, .slice none 0 0, .slice none 0 0]) hxl hi rfl]
  exact h1)
 have hne2 : ((i : Int) == (j : Int)) = false := by rw [beq_eq_false_iff_ne]; omega
 have hiC : i ≤ C := by omega
 have hi1 : j ≤ n := by omega
 have hi2 : j ≤ C := by omega
 have hi3 : i ≤ j := by omega
 have hi4 : i + (n - j) ≤ n := by omega
 have hi5 : n - (i + (n - j)) = 1 := by omega
 have hi7 : ¬ (C = i + (n - j)) := by omega
 replace hj := hide hj
 clear h hxl hone
 go_enter Try.func57, Try.ntmps57
 go_upto_region 5 with (fail)
 refine wp_region_U (S := fun u => u = U) (T := fun j => decide (j < 6)) (by kernel_rfl) ?_
 rw [hUe.out]
 refine wpAnyU_take (i := 0) (v := ?_) (by simp only [List.getElem?_toArray, List.getElem?_cons_succ, List.getElem?_cons_zero]; rfl) (by kernel_rfl) (by kernel_rfl) (by kernel_rfl) (by kernel_rfl) (by exact fun _ _ _ h => h) (Or.inl ⟨by rfl, ?_⟩) (by exact hU.out) ?_
 rotate_left
 ·intro w9 hSw
  go_simp
  all_goals with_reducible rfl
 try simp only [Act.put, List.setIfInBounds_toArray, List.set_cons_zero, List.set_cons_succ]
 refine wpAnyU_take (i := 1) (v := ?_) (by simp only [List.getElem?_toArray, List.getElem?_cons_succ, List.getElem?_cons_zero]; rfl) (by kernel_rfl) (by kernel_rfl) (by kernel_rfl) (by kernel_rfl) (by exact fun _ _ _ h => h) (Or.inl ⟨by rfl, ?_⟩) (by exact hU.out) ?_
 rotate_left
 ·intro w9 hSw
  go_simp
  all_goals with_reducible rfl
 try simp only [Act.put, List.setIfInBounds_toArray, List.set_cons_zero, List.set_cons_succ]
 refine wpAnyU_take (i := 2) (v := ?_) (by simp only [List.getElem?_toArray, List.getElem?_cons_succ, List.getElem?_cons_zero]; rfl) (by kernel_rfl) (by kernel_rfl) (by kernel_rfl) (by kernel_rfl) (by exact fun _ _ _ h => h) (Or.inl ⟨by rfl, ?_⟩) (by exact hU.out) ?_
 rotate_left
 ·intro w9 hSw
  go_simp
  all_goals with_reducible rfl
 try simp only [Act.put, List.setIfInBounds_toArray, List.set_cons_zero, List.set_cons_succ]
 refine wpAnyU_take (i := 3) (v := ?_) (by simp only [List.getElem?_toArray, List.getElem?_cons_succ, List.getElem?_cons_zero]; rfl) (by kernel_rfl) (by kernel_rfl) (by kernel_rfl) (by kernel_rfl) (by exact fun _ _ _ h => h) (Or.inl ⟨by rfl, ?_⟩) (by exact hU.out) ?_
 rotate_left
 ·intro w9 hSw
  go_simp
  all_goals with_reducible rfl
 try simp only [Act.put, List.setIfInBounds_toArray, List.set_cons_zero, List.set_cons_succ]
 refine wpAnyU_take (i := 4) (v := ?_) (by simp only [List.getElem?_toArray, List.getElem?_cons_succ, List.getElem?_cons_zero]; rfl) (by kernel_rfl) (by kernel_rfl) (by kernel_rfl) (by kernel_rfl) (by exact fun _ _ _ h => h) (Or.inl ⟨by rfl, ?_⟩) (by exact hU.out) ?_
 rotate_left
 ·intro w9 hSw
  go_simp
  all_goals with_reducible rfl
 try simp only [Act.put, List.setIfInBounds_toArray, List.set_cons_zero, List.set_cons_succ]
 refine wpAnyU_take (i := 5) (v := ?_) (by simp only [List.getElem?_toArray, List.getElem?_cons_succ, List.getElem?_cons_zero]; rfl) (by kernel_rfl) (by kernel_rfl) (by kernel_rfl) (by kernel_rfl) (by exact fun _ _ _ h => h) (Or.inl ⟨by rfl, ?_⟩) (by exact hU.out) ?_
 rotate_left
 ·intro w9 hSw
  go_simp
  all_goals with_reducible rfl
 try simp only [Act.put, List.setIfInBounds_toArray, List.set_cons_zero, List.set_cons_succ]
 refine wpAnyU_ready (rs := [6]) (by kernel_rfl) (by simp) ?_
 refine AllReadyU.cons (by simp only [List.getElem?_toArray, List.getElem?_cons_succ, List.getElem?_cons_zero]; rfl) (fun K hK => ?_) AllReadyU.nil
 refine step_append_room rfl (.tmp 22) (.tmp 25) 34 rfl 39 i0 7 Try.underlying34 hi0.out hz1.out g 0 i C (by simp [Act.eval, Act.put]) A (n - j) (C - j) news (by simp [Act.eval, Act.put]) hn.out (hA2.out) hn1.out (by omega) hsp.out ?_
 rw [hV.out]
 refine hK.out _ _ (fun h => absurd h (by decide)) ?_
 clear hK K
 try simp only [Act.put, List.setIfInBounds_toArray, List.set_cons_zero, List.set_cons_succ]
 refine wpAnyU_takeY (i := 7) (v := ?_) (by simp only [List.getElem?_toArray, List.getElem?_cons_succ, List.getElem?_cons_zero]; rfl) (by kernel_rfl) (by kernel_rfl) (by kernel_rfl) (by rfl) (by exact fun _ _ _ h => h) (Or.inl ⟨by rfl, ?_⟩) ?_
 rotate_left
 ·intro w9 hSw
  go_simp
  all_goals with_reducible rfl
 try simp only [Act.put, List.setIfInBounds_toArray, List.set_cons_zero, List.set_cons_succ]
 refine wpAnyU_done (by kernel_rfl) ?_ _
 go_wp2
 go_ret
 exact hfin.out
end Go.Proofs.Ytamjcafjdioidaa
