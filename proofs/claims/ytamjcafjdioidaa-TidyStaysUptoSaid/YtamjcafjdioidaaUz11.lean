/- Texts of the chain, without what is not wanted: Ins. No condition but sizes. -/
import Derived.WalkKit
import Derived.Deep.Slices
import Derived.Deep.Draws
import Derived.ChangeSame
import Derived.ChangeOld
import Derived.OwnWalk
import Derived.Laws.OwnMore
import Derived.Deep.AppendLies
import Derived.Test.YtamjcafjdioidaaRows
import Derived.ProofKit
import Derived.OpenShut
import Derived.JoinedCond
import Derived.WalkSpells
import Derived.WalkLawsBesides
import Derived.Deep.RegionHeld3
import Derived.Deep.LoopGhost
import Derived.Deep.QuietTactic
import Derived.BigQuiet
import Derived.Lib.SliceRun
import Derived.Laws.IdiomCopy
import Derived.Deep.MidRow
import Derived.Lib.Overlaps
import Derived.Deep.DeepCutAuto
import Derived.Deep.CutBlock
import Derived.Deep.RegionLaw
import Derived.Test.YtamjcafjdioidaaUz01
import Derived.Test.YtamjcafjdioidaaUz02
import Derived.Test.YtamjcafjdioidaaUz04
import Derived.Test.YtamjcafjdioidaaUz07
import Derived.Test.YtamjcafjdioidaaUz10
namespace Go.Proofs.Ytamjcafjdioidaa
open Go.RowKit
set_option linter.unusedSimpArgs false
set_option linter.unusedVariables false
def InsPost (T : TypeId) (s g n C i B : Nat) (xs vs : List Value) (w : World) (e : Ending) (w' : World) : Prop := e = .returned (.slice (some ⟨g, 0, none⟩) (n + 1) C) ∧ w'.ownsRow B T s (.slice (some ⟨g, 0, none⟩) (n + 1) C) (n + 1) (xs.take (i * s) ++ vs ++ xs.drop (i * s)) ∧ Only (fun k => k = g) w.heap.size w w'
theorem Only.grown_ {S : Nat → Prop} {B : Nat} {a w w1 : World} {blk : Option Nat} (h : Only S B a w) (hB : B ≤ w.heap.size) (hg : w.grownBy w1 blk) (hb : ∀ k, blk = some k → S k) : Only S B a w1 :=
 h.trans ⟨hg.os, hg.tape, hg.output, hg.size, fun k hk hs => hg.block k (by omega) (fun e => hs (hb k e.symm))⟩
set_option maxRecDepth 100000 in
set_option maxHeartbeats 3200000 in
theorem insert_ints (g n C i vb B : Nat) (xs vs : List Value) (w : World) (h : w.ownsRow B 3 1 (.slice (some ⟨g, 0, none⟩) n C) n xs) (hi : i < n) (hC : n < C) (hvb : vb ≠ g) (hv : w.heap[vb]? = some (.cells vs.toArray 3 (0, 0))) (hvl : vs.length = 1) (hone : ∀ u, u ∈ xs → u.oneCell' = true) (hone2 : ∀ u, u ∈ vs → u.oneCell' = true) :
  Calls Try.prog 88 #[.slice (some ⟨g, 0, none⟩) n C, .int .i64 i, .slice (some ⟨vb, 0, none⟩) 1 1] w (InsPost 3 1 g n C i B xs vs w) := by
 obtain ⟨i0, hi0, hz0, hz1, hz2⟩ := cinfo_parts cinfo_int
 replace hi0 := hide hi0
 replace hz1 := hide hz1
 have hCm : C ≤ 9223372036854775807 := by
  rcases h.2 with ⟨e, -⟩ | ⟨g', cap, cur, e, -, -, h1, h2, -⟩
  ·cases e
  ·cases e; exact h2
 obtain ⟨j, hj⟩ : ∃ j, Hid (j = i + 1) := ⟨_, hide rfl⟩
 obtain ⟨m, hm⟩ : ∃ m, Hid (m = n + 1) := ⟨_, hide rfl⟩
 have hji : (i : Int) + 1 = (j : Int) := by have := hj.out; omega
 have hnm : (n : Int) + 1 = (m : Int) := by have := hm.out; omega
 have hwj : IntKind.i64.wrap (j : Int) = (j : Int) := by rw [IntKind.wrap_i64]; have := hj.out; omega
 have hjn : j ≤ n := by have := hj.out; omega
 have hmC : m ≤ C := by have := hm.out; omega
 have hjm : j ≤ m := by have := hm.out; omega
 have him : i ≤ m := by have := hm.out; omega
 have hjC : ¬ (C = j) := by omega
 have hiC : ¬ (C = i) := by omega
 have hin : ¬ ((i : Int) = (n : Int)) := by omega
 have hmC2 : (m : Int) ≤ (C : Int) := by omega
 have hsa : w.shape? vb = some (3, 1) := by simp [World.shape?, hv, hvl]
 have hsb : ∃ kB, w.shape? g = some (3, kB) ∧ kB ≠ 0 := by
  rcases h.2 with ⟨e, -⟩ | ⟨g', cap, cur, e, -, hh, h1, h2, h3, -⟩
  ·cases e
  ·cases e
   exact ⟨cur.size, by simp [World.shape?, hh], by omega⟩
 obtain ⟨kB, hsb, hkB⟩ := hsb
 have hov : ∀ lb cb, (callFunc 104 #[.slice (some ⟨vb, 0, none⟩) 1 1, .slice (some ⟨g, j, none⟩) lb cb]).run Try.prog w = .ok (.value (.bool false)) w := fun lb cb => by
  rw [run_callFunc_extern Try.func104 (by kernel_rfl) (by kernel_rfl) (by kernel_rfl) (e := Extern.SlicesOverlaps.overlaps #[29, 29] #[4]) (by kernel_rfl),
   Lib.run_overlaps_apart w 29 4 3 Try.underlying29 1 (fun w => by kernel_rfl) ⟨vb, 0, none⟩ ⟨g, j, none⟩ 1 1 lb cb hvb 3 3 1 kB hsa hsb hkB (by simp [World.frozen?, hv]) (by simp [World.frozen?, hv])]
  rfl
 obtain ⟨U, hUe⟩ : ∃ U, Hid (w.drew = U) := ⟨_, hide rfl⟩
 have hU : Hid (U = U) := hide rfl
 have hoU : Hid (Only (fun k => k = g) w.heap.size w U) := hide (by rw [← hUe.out]; exact (Only.refl _ _ _).drew)
 have hrU0 : U.ownsRow B 3 1 (.slice (some ⟨g, 0, none⟩) n C) n xs := by rw [← hUe.out]; exact h
 obtain ⟨ys, hys, hrU9⟩ := row_more hrU0 hC
 rw [← hm.out] at hrU9
 have hrU : Hid (U.ownsRow B 3 1 (.slice (some ⟨g, 0, none⟩) m C) m (xs ++ ys)) := hide hrU9
 replace hys := hide hys
 have hxl : Hid (xs.length = n * 1) := hide h.1
 obtain ⟨news, hnews⟩ : ∃ news, Hid (news = xs.drop (i * 1)) := ⟨_, hide rfl⟩
 have hn : Hid (news.length = (m - j) * 1) := hide (by rw [hnews.out, List.length_drop, hxl.out]; have := hm.out; have := hj.out; omega)
 obtain ⟨V, hV⟩ : ∃ V, Hid (U.setCells g (j) news = V) := ⟨_, hide rfl⟩
 have hc1 : ∀ ty, (Builtin.copy_ #[29, 29] ty #[.slice (some ⟨g, j, none⟩) (m - j) (C - j), .slice (some ⟨g, i, none⟩) (m - i) (C - i)]).run Try.prog U = .ok (goInt (Nat.min (m - i) (m - j) : Nat)) V := fun ty => by
  rw [← hV.out]
  refine run_copy_wide U 29 29 ty 3 1 g (j) (m - j) (C - j) ⟨g, i, none⟩ (m - i) (C - i) news Try.underlying29 (by rw [hi0.out]; simp [hz1.out]) (by rw [hn.out, show Nat.min (m - i) (m - j) = m - j from Nat.min_eq_right (by have := hj.out; omega)]) (fun q v hq => ?_) (fun q hq => row_cells hrU.out (by rw [hn.out] at hq; omega)) (fun u hu => hone u (by rw [hnews.out] at hu; exact List.mem_of_mem_drop hu))
  have h1 := (List.getElem?_eq_some_iff.1 hq).1
  have h2 := hn.out
  have ha : (⟨g, i, none⟩ : Addr).add q = ⟨g, i + q, none⟩ := by unfold Addr.add; split <;> simp_all
  rw [ha, World.ownsRow.cellAt hrU.out (i + q) (by have := hj.out; omega), List.getElem?_append_left (by have := hxl.out; have := hm.out; have := hj.out; omega)]
  rw [hnews.out, List.getElem?_drop] at hq
  simpa using hq
 have hrV : Hid (V.ownsRow B 3 1 (.slice (some ⟨g, 0, none⟩) m C) m (patch (xs ++ ys) (j) news)) := hide (by
  have h9 := row_setCells news (j) _ _ hrU.out
  rw [hV.out] at h9
  exact h9)
 have hoV : Hid (Only (fun k => k = g) w.heap.size w V) := hide (by rw [← hV.out]; exact only_setCells (S := fun k => k = g) rfl _ _ _ hoU.out)
 have hc2 : ∀ ty, (Builtin.copy_ #[29, 29] ty #[.slice (some ⟨g, i, none⟩) (m - i) (C - i), .slice (some ⟨vb, 0, none⟩) 1 1]).run Try.prog V = .ok (goInt (Nat.min 1 (m - i) : Nat)) (V.setCells g (i) vs) := fun ty => by
  refine run_copy_wide V 29 29 ty 3 1 g (i) (m - i) (C - i) ⟨vb, 0, none⟩ 1 1 vs Try.underlying29 (by rw [hi0.out]; simp [hz1.out]) (by rw [hvl, show Nat.min 1 (m - i) = 1 from Nat.min_eq_left (by have := hj.out; omega)]) (fun q v hq => ?_) (fun q hq => row_cells hrV.out (by rw [hvl] at hq; omega)) hone2
  have ha : (⟨vb, 0, none⟩ : Addr).add q = ⟨vb, q, none⟩ := by unfold Addr.add; split <;> simp_all
  have hvw : vb < w.heap.size := (Array.getElem?_eq_some_iff.1 hv).1
  have hb9 := (hoV.out.block vb hvw hvb).trans hv
  rw [ha]
  simp [World.cell?, hb9, hq]
 have hfin : Hid (InsPost 3 1 g n C i B xs vs w (.returned (.slice (some ⟨g, 0, none⟩) m C)) (V.setCells g (i) vs)) := hide (by
  refine ⟨by rw [hm.out], ?_, only_setCells (S := fun k => k = g) rfl _ _ _ hoV.out⟩
  have h1 := row_setCells vs (i) _ _ hrV.out
  have h2 := patch_ins (ys := ys) hxl.out (Nat.le_of_lt hi) hys.out hvl
  rw [hnews.out, hj.out] at h1
  rw [← hm.out, ← h2]
  simpa only [Nat.mul_one] using h1)
 clear h hone hone2 hrU9 hrU0 hv hsa hsb hkB
 go_enter Try.func88, Try.ntmps88
 go_upto_region 14 with (fail)
 go_upto_region 15 with (simp only [hov])
 refine wp_region_U (S := fun u => u = U) (T := fun j => decide (j < 8)) (by kernel_rfl) ?_
 rw [hUe.out]
 refine wpAnyU_take (i := 0) (v := ?_) (by simp only [List.getElem?_toArray, List.getElem?_cons_succ, List.getElem?_cons_zero]; rfl) (by kernel_rfl) (by kernel_rfl) (by kernel_rfl) (by kernel_rfl) (by exact fun _ _ _ h => h) (Or.inl ⟨by rfl, ?_⟩) (by exact hU.out) ?_
 rotate_left
 ·intro w9 hSw
  go_simp
  all_goals with_reducible rfl
 try simp only [Act.put, List.setIfInBounds_toArray, List.set_cons_zero, List.set_cons_succ]
 refine wpAnyU_take (i := 1) (v := ?_) (by simp only [List.getElem?_toArray, List.getElem?_cons_succ, List.getElem?_cons_zero]; rfl) (by kernel_rfl) (by kernel_rfl) (by kernel_rfl) (by kernel_rfl) (by exact fun _ _ _ h => h) (Or.inl ⟨by rfl, ?_⟩) (by exact hU.out) ?_
 rotate_left
 ·intro w9 hSw
  go_simp
  all_goals with_reducible rfl
 try simp only [Act.put, List.setIfInBounds_toArray, List.set_cons_zero, List.set_cons_succ]
 refine wpAnyU_take (i := 2) (v := ?_) (by simp only [List.getElem?_toArray, List.getElem?_cons_succ, List.getElem?_cons_zero]; rfl) (by kernel_rfl) (by kernel_rfl) (by kernel_rfl) (by kernel_rfl) (by exact fun _ _ _ h => h) (Or.inl ⟨by rfl, ?_⟩) (by exact hU.out) ?_
 rotate_left
 ·intro w9 hSw
  go_simp
  all_goals with_reducible rfl
 try simp only [Act.put, List.setIfInBounds_toArray, List.set_cons_zero, List.set_cons_succ]
 refine wpAnyU_take (i := 3) (v := ?_) (by simp only [List.getElem?_toArray, List.getElem?_cons_succ, List.getElem?_cons_zero]; rfl) (by kernel_rfl) (by kernel_rfl) (by kernel_rfl) (by kernel_rfl) (by exact fun _ _ _ h => h) (Or.inl ⟨by rfl, ?_⟩) (by exact hU.out) ?_
 rotate_left
 ·intro w9 hSw
  go_simp
  all_goals with_reducible rfl
 try simp only [Act.put, List.setIfInBounds_toArray, List.set_cons_zero, List.set_cons_succ]
 refine wpAnyU_take (i := 4) (v := ?_) (by simp only [List.getElem?_toArray, List.getElem?_cons_succ, List.getElem?_cons_zero]; rfl) (by kernel_rfl) (by kernel_rfl) (by kernel_rfl) (by kernel_rfl) (by exact fun _ _ _ h => h) (Or.inl ⟨by rfl, ?_⟩) (by exact hU.out) ?_
 rotate_left
 ·intro w9 hSw
  go_simp
  all_goals with_reducible rfl
 try simp only [Act.put, List.setIfInBounds_toArray, List.set_cons_zero, List.set_cons_succ]
 refine wpAnyU_take (i := 5) (v := ?_) (by simp only [List.getElem?_toArray, List.getElem?_cons_succ, List.getElem?_cons_zero]; rfl) (by kernel_rfl) (by kernel_rfl) (by kernel_rfl) (by kernel_rfl) (by exact fun _ _ _ h => h) (Or.inl ⟨by rfl, ?_⟩) (by exact hU.out) ?_
 rotate_left
 ·intro w9 hSw
  go_simp
  all_goals with_reducible rfl
 try simp only [Act.put, List.setIfInBounds_toArray, List.set_cons_zero, List.set_cons_succ]
 refine wpAnyU_take (i := 6) (v := ?_) (by simp only [List.getElem?_toArray, List.getElem?_cons_succ, List.getElem?_cons_zero]; rfl) (by kernel_rfl) (by kernel_rfl) (by kernel_rfl) (by kernel_rfl) (by exact fun _ _ _ h => h) (Or.inl ⟨by rfl, ?_⟩) (by exact hU.out) ?_
 rotate_left
 ·intro w9 hSw
  go_simp
  all_goals with_reducible rfl
 try simp only [Act.put, List.setIfInBounds_toArray, List.set_cons_zero, List.set_cons_succ]
 refine wpAnyU_take (i := 7) (v := ?_) (by simp only [List.getElem?_toArray, List.getElem?_cons_succ, List.getElem?_cons_zero]; rfl) (by kernel_rfl) (by kernel_rfl) (by kernel_rfl) (by kernel_rfl) (by exact fun _ _ _ h => h) (Or.inl ⟨by rfl, ?_⟩) (by exact hU.out) ?_
 rotate_left
 ·intro w9 hSw
  go_simp
  all_goals with_reducible rfl
 try simp only [Act.put, List.setIfInBounds_toArray, List.set_cons_zero, List.set_cons_succ]
 refine wpAnyU_ready (rs := [8]) (by kernel_rfl) (by simp) ?_
 refine AllReadyU.cons (by simp only [List.getElem?_toArray, List.getElem?_cons_succ, List.getElem?_cons_zero]; rfl) (fun K hK => ?_) AllReadyU.nil
 refine step_copy_ rfl _ _ 29 29 rfl _ _ (by simp [Act.eval, Act.put]) (by simp [Act.eval, Act.put]) (hc1 _) ?_
 refine hK.out _ _ (fun h => absurd h (by decide)) ?_
 clear hK K
 try simp only [Act.put, List.setIfInBounds_toArray, List.set_cons_zero, List.set_cons_succ]
 refine wpAnyU_done (by kernel_rfl) ?_ _
 go_wp2_with (at_builtin; refine wpList_copy_ _ rfl _ _ 29 29 rfl _ _ rfl rfl (hc2 _) ?_)
 go_ret
 exact hfin.out
set_option maxRecDepth 100000 in
set_option maxHeartbeats 3200000 in
theorem insert_ints_end (g n C vb B : Nat) (xs vs : List Value) (w : World) (h : w.ownsRow B 3 1 (.slice (some ⟨g, 0, none⟩) n C) n xs) (hC : n < C) (hvb : vb ≠ g) (hv : w.heap[vb]? = some (.cells vs.toArray 3 (0, 0))) (hvl : vs.length = 1) (hone2 : ∀ u, u ∈ vs → u.oneCell' = true) :
  Calls Try.prog 88 #[.slice (some ⟨g, 0, none⟩) n C, .int .i64 n, .slice (some ⟨vb, 0, none⟩) 1 1] w (InsPost 3 1 g n C n B xs vs w) := by
 obtain ⟨i0, hi0, hz0, hz1, hz2⟩ := cinfo_parts cinfo_int
 replace hi0 := hide hi0
 replace hz1 := hide hz1
 have hCm : C ≤ 9223372036854775807 := by
  rcases h.2 with ⟨e, -⟩ | ⟨g', cap, cur, e, -, -, h1, h2, -⟩
  ·cases e
  ·cases e; exact h2
 have hxl := h.1
 have hrd : Hid (∀ q u, vs[q]? = some u → w.cell? ((⟨vb, 0, none⟩ : Addr).add q) = some u) := hide (fun q u hq => by
  have ha : (⟨vb, 0, none⟩ : Addr).add q = ⟨vb, q, none⟩ := by unfold Addr.add; split <;> simp_all
  rw [ha]
  simp [World.cell?, hv, hq])
 have hfin : Hid (∀ w', w'.ownsRow B 3 1 (.slice (some ⟨g, 0, none⟩) (n + 1) C) (n + 1) (xs ++ vs) → w.grownBy w' (some g) → InsPost 3 1 g n C n B xs vs w (.returned (.slice (some ⟨g, 0, none⟩) (n + 1) C)) w') := hide (fun w' h1 h2 => by
  refine ⟨rfl, ?_, Only.grown_ (Only.refl _ _ _) (Nat.le_refl _) h2 fun k hk => by cases hk; rfl⟩
  rw [List.take_of_length_le (by omega), List.drop_eq_nil_of_le (by omega), List.append_nil]
  exact h1)
 replace h := hide h
 replace hv := hide hv
 replace hone2 := hide hone2
 replace hvl := hide hvl
 go_enter Try.func88, Try.ntmps88
 go_wp2_with (at_builtin; refine wpList_append_fits _ rfl _ _ 29 rfl B 3 i0 1 Try.underlying29 hi0.out hz1.out g n C xs rfl h.out ⟨vb, 0, none⟩ 1 1 vs rfl (by rw [hvl.out]) hrd.out hone2.out (by omega) ?_; intro w' h1 h2; replace h1 := hide h1; replace h2 := hide h2)
 go_ret
 exact hfin.out _ h1.out h2.out
theorem insert_ints_any (g n C i vb B : Nat) (xs vs : List Value) (w : World) (h : w.ownsRow B 3 1 (.slice (some ⟨g, 0, none⟩) n C) n xs) (hi : i ≤ n) (hC : n < C) (hvb : vb ≠ g) (hv : w.heap[vb]? = some (.cells vs.toArray 3 (0, 0))) (hvl : vs.length = 1) (hone : ∀ u, u ∈ xs → u.oneCell' = true) (hone2 : ∀ u, u ∈ vs → u.oneCell' = true) :
  Calls Try.prog 88 #[.slice (some ⟨g, 0, none⟩) n C, .int .i64 i, .slice (some ⟨vb, 0, none⟩) 1 1] w (InsPost 3 1 g n C i B xs vs w) := by
 by_cases hin : i = n
 ·subst hin
  exact insert_ints_end g i C vb B xs vs w h hC hvb hv hvl hone2
 ·exact insert_ints g n C i vb B xs vs w h (by omega) hC hvb hv hvl hone hone2
set_option maxRecDepth 100000 in
set_option maxHeartbeats 3200000 in
theorem insert_opds (g n C i vb B : Nat) (xs vs : List Value) (w : World) (h : w.ownsRow B 42 3 (.slice (some ⟨g, 0, none⟩) n C) n xs) (hi : i < n) (hC : n < C) (hvb : vb ≠ g) (hv : w.heap[vb]? = some (.cells vs.toArray 42 (0, 0))) (hvl : vs.length = 3) (hone : ∀ u, u ∈ xs → u.oneCell' = true) (hone2 : ∀ u, u ∈ vs → u.oneCell' = true) :
  Calls Try.prog 89 #[.slice (some ⟨g, 0, none⟩) n C, .int .i64 i, .slice (some ⟨vb, 0, none⟩) 1 1] w (InsPost 42 3 g n C i B xs vs w) := by
 obtain ⟨i0, hi0, hz0, hz1, hz2⟩ := cinfo_parts cinfo_Value
 replace hi0 := hide hi0
 replace hz1 := hide hz1
 have hCm : C ≤ 9223372036854775807 := by
  rcases h.2 with ⟨e, -⟩ | ⟨g', cap, cur, e, -, -, h1, h2, -⟩
  ·cases e
  ·cases e; exact h2
 obtain ⟨j, hj⟩ : ∃ j, Hid (j = i + 1) := ⟨_, hide rfl⟩
 obtain ⟨m, hm⟩ : ∃ m, Hid (m = n + 1) := ⟨_, hide rfl⟩
 have hji : (i : Int) + 1 = (j : Int) := by have := hj.out; omega
 have hnm : (n : Int) + 1 = (m : Int) := by have := hm.out; omega
 have hwj : IntKind.i64.wrap (j : Int) = (j : Int) := by rw [IntKind.wrap_i64]; have := hj.out; omega
 have hjn : j ≤ n := by have := hj.out; omega
 have hmC : m ≤ C := by have := hm.out; omega
 have hjm : j ≤ m := by have := hm.out; omega
 have him : i ≤ m := by have := hm.out; omega
 have hjC : ¬ (C = j) := by omega
 have hiC : ¬ (C = i) := by omega
 have hin : ¬ ((i : Int) = (n : Int)) := by omega
 have hmC2 : (m : Int) ≤ (C : Int) := by omega
 have hsa : w.shape? vb = some (42, 3) := by simp [World.shape?, hv, hvl]
 have hsb : ∃ kB, w.shape? g = some (42, kB) ∧ kB ≠ 0 := by
  rcases h.2 with ⟨e, -⟩ | ⟨g', cap, cur, e, -, hh, h1, h2, h3, -⟩
  ·cases e
  ·cases e
   exact ⟨cur.size, by simp [World.shape?, hh], by omega⟩
 obtain ⟨kB, hsb, hkB⟩ := hsb
 have hov : ∀ lb cb, (callFunc 106 #[.slice (some ⟨vb, 0, none⟩) 1 1, .slice (some ⟨g, j * 3, none⟩) lb cb]).run Try.prog w = .ok (.value (.bool false)) w := fun lb cb => by
  rw [run_callFunc_extern Try.func106 (by kernel_rfl) (by kernel_rfl) (by kernel_rfl) (e := Extern.SlicesOverlaps.overlaps #[37, 37] #[4]) (by kernel_rfl),
   Lib.run_overlaps_apart w 37 4 42 Try.underlying37 3 (fun w => by kernel_rfl) ⟨vb, 0, none⟩ ⟨g, j * 3, none⟩ 1 1 lb cb hvb 42 42 3 kB hsa hsb hkB (by simp [World.frozen?, hv]) (by simp [World.frozen?, hv])]
  rfl
 obtain ⟨U, hUe⟩ : ∃ U, Hid (w.drew = U) := ⟨_, hide rfl⟩
 have hU : Hid (U = U) := hide rfl
 have hoU : Hid (Only (fun k => k = g) w.heap.size w U) := hide (by rw [← hUe.out]; exact (Only.refl _ _ _).drew)
 have hrU0 : U.ownsRow B 42 3 (.slice (some ⟨g, 0, none⟩) n C) n xs := by rw [← hUe.out]; exact h
 obtain ⟨ys, hys, hrU9⟩ := row_more hrU0 hC
 rw [← hm.out] at hrU9
 have hrU : Hid (U.ownsRow B 42 3 (.slice (some ⟨g, 0, none⟩) m C) m (xs ++ ys)) := hide hrU9
 replace hys := hide hys
 have hxl : Hid (xs.length = n * 3) := hide h.1
 obtain ⟨news, hnews⟩ : ∃ news, Hid (news = xs.drop (i * 3)) := ⟨_, hide rfl⟩
 have hn : Hid (news.length = (m - j) * 3) := hide (by rw [hnews.out, List.length_drop, hxl.out]; have := hm.out; have := hj.out; omega)
 obtain ⟨V, hV⟩ : ∃ V, Hid (U.setCells g (j * 3) news = V) := ⟨_, hide rfl⟩
 have hc1 : ∀ ty, (Builtin.copy_ #[37, 37] ty #[.slice (some ⟨g, j * 3, none⟩) (m - j) (C - j), .slice (some ⟨g, i * 3, none⟩) (m - i) (C - i)]).run Try.prog U = .ok (goInt (Nat.min (m - i) (m - j) : Nat)) V := fun ty => by
  rw [← hV.out]
  refine run_copy_wide U 37 37 ty 42 3 g (j * 3) (m - j) (C - j) ⟨g, i * 3, none⟩ (m - i) (C - i) news Try.underlying37 (by rw [hi0.out]; simp [hz1.out]) (by rw [hn.out, show Nat.min (m - i) (m - j) = m - j from Nat.min_eq_right (by have := hj.out; omega)]) (fun q v hq => ?_) (fun q hq => row_cells hrU.out (by rw [hn.out] at hq; omega)) (fun u hu => hone u (by rw [hnews.out] at hu; exact List.mem_of_mem_drop hu))
  have h1 := (List.getElem?_eq_some_iff.1 hq).1
  have h2 := hn.out
  have ha : (⟨g, i * 3, none⟩ : Addr).add q = ⟨g, i * 3 + q, none⟩ := by unfold Addr.add; split <;> simp_all
  rw [ha, World.ownsRow.cellAt hrU.out (i * 3 + q) (by have := hj.out; omega), List.getElem?_append_left (by have := hxl.out; have := hm.out; have := hj.out; omega)]
  rw [hnews.out, List.getElem?_drop] at hq
  simpa using hq
 have hrV : Hid (V.ownsRow B 42 3 (.slice (some ⟨g, 0, none⟩) m C) m (patch (xs ++ ys) (j * 3) news)) := hide (by
  have h9 := row_setCells news (j * 3) _ _ hrU.out
  rw [hV.out] at h9
  exact h9)
 have hoV : Hid (Only (fun k => k = g) w.heap.size w V) := hide (by rw [← hV.out]; exact only_setCells (S := fun k => k = g) rfl _ _ _ hoU.out)
 have hc2 : ∀ ty, (Builtin.copy_ #[37, 37] ty #[.slice (some ⟨g, i * 3, none⟩) (m - i) (C - i), .slice (some ⟨vb, 0, none⟩) 1 1]).run Try.prog V = .ok (goInt (Nat.min 1 (m - i) : Nat)) (V.setCells g (i * 3) vs) := fun ty => by
  refine run_copy_wide V 37 37 ty 42 3 g (i * 3) (m - i) (C - i) ⟨vb, 0, none⟩ 1 1 vs Try.underlying37 (by rw [hi0.out]; simp [hz1.out]) (by rw [hvl, show Nat.min 1 (m - i) = 1 from Nat.min_eq_left (by have := hj.out; omega)]) (fun q v hq => ?_) (fun q hq => row_cells hrV.out (by rw [hvl] at hq; omega)) hone2
  have ha : (⟨vb, 0, none⟩ : Addr).add q = ⟨vb, q, none⟩ := by unfold Addr.add; split <;> simp_all
  have hvw : vb < w.heap.size := (Array.getElem?_eq_some_iff.1 hv).1
  have hb9 := (hoV.out.block vb hvw hvb).trans hv
  rw [ha]
  simp [World.cell?, hb9, hq]
 have hfin : Hid (InsPost 42 3 g n C i B xs vs w (.returned (.slice (some ⟨g, 0, none⟩) m C)) (V.setCells g (i * 3) vs)) := hide (by
  refine ⟨by rw [hm.out], ?_, only_setCells (S := fun k => k = g) rfl _ _ _ hoV.out⟩
  have h1 := row_setCells vs (i * 3) _ _ hrV.out
  have h2 := patch_ins (ys := ys) hxl.out (Nat.le_of_lt hi) hys.out hvl
  rw [hnews.out, hj.out] at h1
  rw [← hm.out, ← h2]
  simpa only [Nat.mul_one] using h1)
 clear h hone hone2 hrU9 hrU0 hv hsa hsb hkB
 go_enter Try.func89, Try.ntmps89
 go_upto_region 14 with (fail)
 go_upto_region 15 with (simp only [hov])
 refine wp_region_U (S := fun u => u = U) (T := fun j => decide (j < 8)) (by kernel_rfl) ?_
 rw [hUe.out]
 refine wpAnyU_take (i := 0) (v := ?_) (by simp only [List.getElem?_toArray, List.getElem?_cons_succ, List.getElem?_cons_zero]; rfl) (by kernel_rfl) (by kernel_rfl) (by kernel_rfl) (by kernel_rfl) (by exact fun _ _ _ h => h) (Or.inl ⟨by rfl, ?_⟩) (by exact hU.out) ?_
 rotate_left
 ·intro w9 hSw
  go_simp
  all_goals with_reducible rfl
 try simp only [Act.put, List.setIfInBounds_toArray, List.set_cons_zero, List.set_cons_succ]
 refine wpAnyU_take (i := 1) (v := ?_) (by simp only [List.getElem?_toArray, List.getElem?_cons_succ, List.getElem?_cons_zero]; rfl) (by kernel_rfl) (by kernel_rfl) (by kernel_rfl) (by kernel_rfl) (by exact fun _ _ _ h => h) (Or.inl ⟨by rfl, ?_⟩) (by exact hU.out) ?_
 rotate_left
 ·intro w9 hSw
  go_simp
  all_goals with_reducible rfl
 try simp only [Act.put, List.setIfInBounds_toArray, List.set_cons_zero, List.set_cons_succ]
 refine wpAnyU_take (i := 2) (v := ?_) (by simp only [List.getElem?_toArray, List.getElem?_cons_succ, List.getElem?_cons_zero]; rfl) (by kernel_rfl) (by kernel_rfl) (by kernel_rfl) (by kernel_rfl) (by exact fun _ _ _ h => h) (Or.inl ⟨by rfl, ?_⟩) (by exact hU.out) ?_
 rotate_left
 ·intro w9 hSw
  go_simp
  all_goals with_reducible rfl
 try simp only [Act.put, List.setIfInBounds_toArray, List.set_cons_zero, List.set_cons_succ]
 refine wpAnyU_take (i := 3) (v := ?_) (by simp only [List.getElem?_toArray, List.getElem?_cons_succ, List.getElem?_cons_zero]; rfl) (by kernel_rfl) (by kernel_rfl) (by kernel_rfl) (by kernel_rfl) (by exact fun _ _ _ h => h) (Or.inl ⟨by rfl, ?_⟩) (by exact hU.out) ?_
 rotate_left
 ·intro w9 hSw
  go_simp
  all_goals with_reducible rfl
 try simp only [Act.put, List.setIfInBounds_toArray, List.set_cons_zero, List.set_cons_succ]
 refine wpAnyU_take (i := 4) (v := ?_) (by simp only [List.getElem?_toArray, List.getElem?_cons_succ, List.getElem?_cons_zero]; rfl) (by kernel_rfl) (by kernel_rfl) (by kernel_rfl) (by kernel_rfl) (by exact fun _ _ _ h => h) (Or.inl ⟨by rfl, ?_⟩) (by exact hU.out) ?_
 rotate_left
 ·intro w9 hSw
  go_simp
  all_goals with_reducible rfl
 try simp only [Act.put, List.setIfInBounds_toArray, List.set_cons_zero, List.set_cons_succ]
 refine wpAnyU_take (i := 5) (v := ?_) (by simp only [List.getElem?_toArray, List.getElem?_cons_succ, List.getElem?_cons_zero]; rfl) (by kernel_rfl) (by kernel_rfl) (by kernel_rfl) (by kernel_rfl) (by exact fun _ _ _ h => h) (Or.inl ⟨by rfl, ?_⟩) (by exact hU.out) ?_
 rotate_left
 ·intro w9 hSw
  go_simp
  all_goals with_reducible rfl
 try simp only [Act.put, List.setIfInBounds_toArray, List.set_cons_zero, List.set_cons_succ]
 refine wpAnyU_take (i := 6) (v := ?_) (by simp only [List.getElem?_toArray, List.getElem?_cons_succ, List.getElem?_cons_zero]; rfl) (by kernel_rfl) (by kernel_rfl) (by kernel_rfl) (by kernel_rfl) (by exact fun _ _ _ h => h) (Or.inl ⟨by rfl, ?_⟩) (by exact hU.out) ?_
 rotate_left
 ·intro w9 hSw
  go_simp
  all_goals with_reducible rfl
 try simp only [Act.put, List.setIfInBounds_toArray, List.set_cons_zero, List.set_cons_succ]
 refine wpAnyU_take (i := 7) (v := ?_) (by simp only [List.getElem?_toArray, List.getElem?_cons_succ, List.getElem?_cons_zero]; rfl) (by kernel_rfl) (by kernel_rfl) (by kernel_rfl) (by kernel_rfl) (by exact fun _ _ _ h => h) (Or.inl ⟨by rfl, ?_⟩) (by exact hU.out) ?_
 rotate_left
 ·intro w9 hSw
  go_simp
  all_goals with_reducible rfl
 try simp only [Act.put, List.setIfInBounds_toArray, List.set_cons_zero, List.set_cons_succ]
 refine wpAnyU_ready (rs := [8]) (by kernel_rfl) (by simp) ?_
 refine AllReadyU.cons (by simp only [List.getElem?_toArray, List.getElem?_cons_succ, List.getElem?_cons_zero]; rfl) (fun K hK => ?_) AllReadyU.nil
 refine step_copy_ rfl _ _ 37 37 rfl _ _ (by simp [Act.eval, Act.put]) (by simp [Act.eval, Act.put]) (hc1 _) ?_
 refine hK.out _ _ (fun h => absurd h (by decide)) ?_
 clear hK K
 try simp only [Act.put, List.setIfInBounds_toArray, List.set_cons_zero, List.set_cons_succ]
 refine wpAnyU_done (by kernel_rfl) ?_ _
 go_wp2_with (at_builtin; refine wpList_copy_ _ rfl _ _ 37 37 rfl _ _ rfl rfl (hc2 _) ?_)
 go_ret
 exact hfin.out
set_option maxRecDepth 100000 in
set_option maxHeartbeats 3200000 in
theorem insert_opds_end (g n C vb B : Nat) (xs vs : List Value) (w : World) (h : w.ownsRow B 42 3 (.slice (some ⟨g, 0, none⟩) n C) n xs) (hC : n < C) (hvb : vb ≠ g) (hv : w.heap[vb]? = some (.cells vs.toArray 42 (0, 0))) (hvl : vs.length = 3) (hone2 : ∀ u, u ∈ vs → u.oneCell' = true) :
  Calls Try.prog 89 #[.slice (some ⟨g, 0, none⟩) n C, .int .i64 n, .slice (some ⟨vb, 0, none⟩) 1 1] w (InsPost 42 3 g n C n B xs vs w) := by
 obtain ⟨i0, hi0, hz0, hz1, hz2⟩ := cinfo_parts cinfo_Value
 replace hi0 := hide hi0
 replace hz1 := hide hz1
 have hCm : C ≤ 9223372036854775807 := by
  rcases h.2 with ⟨e, -⟩ | ⟨g', cap, cur, e, -, -, h1, h2, -⟩
  ·cases e
  ·cases e; exact h2
 have hxl := h.1
 have hrd : Hid (∀ q u, vs[q]? = some u → w.cell? ((⟨vb, 0, none⟩ : Addr).add q) = some u) := hide (fun q u hq => by
  have ha : (⟨vb, 0, none⟩ : Addr).add q = ⟨vb, q, none⟩ := by unfold Addr.add; split <;> simp_all
  rw [ha]
  simp [World.cell?, hv, hq])
 have hfin : Hid (∀ w', w'.ownsRow B 42 3 (.slice (some ⟨g, 0, none⟩) (n + 1) C) (n + 1) (xs ++ vs) → w.grownBy w' (some g) → InsPost 42 3 g n C n B xs vs w (.returned (.slice (some ⟨g, 0, none⟩) (n + 1) C)) w') := hide (fun w' h1 h2 => by
  refine ⟨rfl, ?_, Only.grown_ (Only.refl _ _ _) (Nat.le_refl _) h2 fun k hk => by cases hk; rfl⟩
  rw [List.take_of_length_le (by omega), List.drop_eq_nil_of_le (by omega), List.append_nil]
  exact h1)
 replace h := hide h
 replace hv := hide hv
 replace hone2 := hide hone2
 replace hvl := hide hvl
 go_enter Try.func89, Try.ntmps89
 go_wp2_with (at_builtin; refine wpList_append_fits _ rfl _ _ 37 rfl B 42 i0 3 Try.underlying37 hi0.out hz1.out g n C xs rfl h.out ⟨vb, 0, none⟩ 1 1 vs rfl (by rw [hvl.out]) hrd.out hone2.out (by omega) ?_; intro w' h1 h2; replace h1 := hide h1; replace h2 := hide h2)
 go_ret
 exact hfin.out _ h1.out h2.out
theorem insert_opds_any (g n C i vb B : Nat) (xs vs : List Value) (w : World) (h : w.ownsRow B 42 3 (.slice (some ⟨g, 0, none⟩) n C) n xs) (hi : i ≤ n) (hC : n < C) (hvb : vb ≠ g) (hv : w.heap[vb]? = some (.cells vs.toArray 42 (0, 0))) (hvl : vs.length = 3) (hone : ∀ u, u ∈ xs → u.oneCell' = true) (hone2 : ∀ u, u ∈ vs → u.oneCell' = true) :
  Calls Try.prog 89 #[.slice (some ⟨g, 0, none⟩) n C, .int .i64 i, .slice (some ⟨vb, 0, none⟩) 1 1] w (InsPost 42 3 g n C i B xs vs w) := by
 by_cases hin : i = n
 ·subst hin
  exact insert_opds_end g i C vb B xs vs w h hC hvb hv hvl hone2
 ·exact insert_opds g n C i vb B xs vs w h (by omega) hC hvb hv hvl hone hone2
end Go.Proofs.Ytamjcafjdioidaa
