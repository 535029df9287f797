/- lathelaw06.jump and lathelaw06.lives. No condition. -/
import Derived.Test.YtffklfalocamiaaGrJ
namespace Go.Proofs.Ytffklfalocamiaa
open Go.RowKit
set_option linter.unusedSimpArgs false
set_option linter.unusedVariables false

def jumpS (op : Int) (ts : List Int) : List Ins := [⟨op, -1, 0, 0, 0, [], ts⟩]
theorem box_at {w : World} {N : Nat} (o : Obj) (h : N = w.heap.size) : (w.alloc o).heap[N]? = some o := by subst h; exact box_top _ _
def livesB : List (List Ins) := [jumpS 32 [2, 1], jumpS 31 [3], jumpS 31 [3], jumpS 33 [], jumpS 31 [3]]
theorem lives_s0 : succsF livesB 0 = [2, 1] := by decide
theorem lives_s1 : succsF livesB 1 = [3] := by decide
theorem lives_s2 : succsF livesB 2 = [3] := by decide
theorem lives_s3 : succsF livesB 3 = [] := by decide
theorem lives_order : orderF livesB = [0, 1, 2, 3] := by
  unfold orderF
  rw [if_neg (by decide), lives_s0, dfs_push (by decide), lives_s2, dfs_push (by decide), lives_s3, dfs_pop, dfs_pop, dfs_push (by decide), lives_s1, dfs_skip (by decide), dfs_pop, dfs_pop, dfs_nil]
  rfl
theorem lives_reach : reachF livesB = [true, true, true, true, false] := by
  unfold reachF
  rw [lives_order]
  rfl
def livesFn : Fun := ⟨⟨#[]⟩, [], 0, livesB⟩
theorem lives_small : Small livesFn := by
  refine ⟨by decide, by decide, fun x hx => ?_⟩
  have h : ∀ x, x ∈ livesB → x.length ≤ 2000000 ∧ ∀ i, i ∈ x → i.args.length ≤ 2000000 ∧ i.to.length ≤ 2000000 := by decide
  exact h x hx
def JumpPost (op : Int) (ts : List Int) (B : Nat) (w : World) (e : Ending) (w' : World) : Prop := ∃ v, e = .returned (.agg #[v]) ∧ OwnC w' B v (jumpS op ts) ∧ Below w.heap.size w w'
set_option maxRecDepth 100000 in
set_option maxHeartbeats 3200000 in
theorem jump_any (op : Int) (hop : I64 op) (c : Value) (ts : List Int) (w : World) (B : Nat) (hB : B ≤ w.heap.size) (hc : OwnI w B c ts) :
    Calls Try.prog 74 #[.int .i64 op, c] w (JumpPost op ts B w) := by
  obtain ⟨A, C, rfl⟩ := row_form hc.row
  go_enter Try.func74, Try.ntmps74
  go_wp2
  refine bodyPost_ret (v := .agg #[.slice (some ⟨w.heap.size + 1, 0, none⟩) 1 1]) (by simp [results, Try.results74, go_sem]) rfl ?_
  have hb : Below w.heap.size w ((w.alloc (Obj.cells #[Value.slice (some { block := w.heap.size + 1, off := 0 }) 1 1] 91)).alloc (Obj.cells #[.int .i64 op, .int .i64 (-1), .int .i64 0, .int .i64 0, .int .i64 0, .slice none 0 0, .slice A ts.length C] 70)) :=
    ((Below.refl _ _).alloc (Nat.le_refl _) _).alloc (by simp) _
  refine ⟨_, rfl, ⟨[insC ⟨op, -1, 0, 0, 0, [], ts⟩ (.slice none 0 0) (.slice A ts.length C)], rfl, ⟨rfl, .inr ⟨w.heap.size + 1, 1, _, rfl, by omega, box_at _ (by simp), Nat.le_refl _, by simp [maxLen], rfl, rfl⟩⟩, fun i es x h1 h2 => ?_⟩, hb⟩
  cases i with
  | zero => cases h1; cases h2; exact ⟨_, _, rfl, OwnV.nil_, hc.kept fun k _ hk => hb.block k hk, hop, (by show I64 (-1); decide), (by show I64 0; decide), (by show I64 0; decide), (by show I64 0; decide)⟩
  | succ i => simp at h1
theorem own_lit {w : World} {B N n : Nat} {cs : Array Value} {l : List Int} (hcs : cs.toList = l.map fun z => Value.int .i64 z) (hn : l.length = n) (hl : ∀ x, x ∈ l → I64 x) (hN : N = w.heap.size) (hB : B ≤ w.heap.size) (hm : l.length ≤ 2000000) : OwnI (w.alloc (.cells cs 3)) B (.slice (some ⟨N, 0, none⟩) n n) l := by
  subst hn
  have hs : cs.size = l.length := by have := congrArg List.length hcs; simpa using this
  refine ⟨⟨by simp, .inr ⟨N, l.length, cs, rfl, by omega, box_at _ hN, Nat.le_refl _, by unfold maxLen; omega, by omega, ?_⟩⟩, hl⟩
  rw [hcs, List.take_of_length_le (by simp)]
theorem OwnC.below {w w' : World} {B : Nat} {v : Value} {l : List Ins} (h : OwnC w B v l) (hb : Below w.heap.size w w') : OwnC w' B v l := h.kept fun k _ hk => hb.block k hk
theorem bstep {w w' : World} {o : Obj} (h : Below (w.alloc o).heap.size (w.alloc o) w') : Below w.heap.size w w' := ((Below.refl _ _).alloc (Nat.le_refl _) o).trans (h.mono (by simp))
theorem bk (w : World) (o : Obj) : Below w.heap.size w (w.alloc o) := (Below.refl _ _).alloc (Nat.le_refl _) o
def LivesPost (w : World) (e : Ending) (w' : World) : Prop := e = .returned (.bool true) ∧ Below w.heap.size w w'
set_option maxRecDepth 100000 in
set_option maxHeartbeats 6400000 in
theorem lives06_any (w : World) : Calls Try.prog 23 #[] w (LivesPost w) := by
  have hself := Below.refl w.heap.size w
  go_enter Try.func23, Try.ntmps23
  go_wp2_with (fail)
  refine (jump_any 32 (by decide) _ [2, 1] _ w.heap.size (by simp) (own_lit rfl rfl (by decide) rfl (Nat.le_refl _) (by decide))).mono ?_
  rintro e w1 ⟨v1, rfl, hC1, hb1⟩
  have hbel1 := hide (bstep hb1)
  replace hC1 := hide hC1
  clear hb1
  have hs1 := hbel1.out.size
  go_wp2_with (fail)
  refine (jump_any 31 (by decide) _ [3] _ w.heap.size (by simp; omega) (own_lit rfl rfl (by decide) rfl hs1 (by decide))).mono ?_
  rintro e w2 ⟨v2, rfl, hC2, hb2⟩
  have hbel2 := hide (hbel1.out.trans ((bstep hb2).mono hs1))
  replace hC1 := hide (hC1.out.below (bstep hb2))
  replace hC2 := hide hC2
  clear hb2 hbel1 hs1
  have hs2 := hbel2.out.size
  go_wp2_with (fail)
  refine (jump_any 31 (by decide) _ [3] _ w.heap.size (by simp; omega) (own_lit rfl rfl (by decide) rfl hs2 (by decide))).mono ?_
  rintro e w3 ⟨v3, rfl, hC3, hb3⟩
  have hbel3 := hide (hbel2.out.trans ((bstep hb3).mono hs2))
  replace hC1 := hide (hC1.out.below (bstep hb3))
  replace hC2 := hide (hC2.out.below (bstep hb3))
  replace hC3 := hide hC3
  clear hb3 hbel2 hs2
  have hs3 := hbel3.out.size
  go_wp2_with (fail)
  refine (jump_any 33 (by decide) _ [] _ w.heap.size hs3 OwnI.nil_).mono ?_
  rintro e w4 ⟨v4, rfl, hC4, hb4⟩
  have hbel4 := hide (hbel3.out.trans (hb4.mono hs3))
  replace hC1 := hide (hC1.out.below hb4)
  replace hC2 := hide (hC2.out.below hb4)
  replace hC3 := hide (hC3.out.below hb4)
  replace hC4 := hide hC4
  clear hb4 hbel3 hs3
  have hs4 := hbel4.out.size
  go_wp2_with (fail)
  refine (jump_any 31 (by decide) _ [3] _ w.heap.size (by simp; omega) (own_lit rfl rfl (by decide) rfl hs4 (by decide))).mono ?_
  rintro e w5 ⟨v5, rfl, hC5, hb5⟩
  have hbel5 := hide (hbel4.out.trans ((bstep hb5).mono hs4))
  replace hC1 := hide (hC1.out.below (bstep hb5))
  replace hC2 := hide (hC2.out.below (bstep hb5))
  replace hC3 := hide (hC3.out.below (bstep hb5))
  replace hC4 := hide (hC4.out.below (bstep hb5))
  replace hC5 := hide hC5
  clear hb5 hbel4 hs4
  have hs5 := hbel5.out.size
  go_upto_region 2 with (fail)
  have hk1 : Below w5.heap.size w5 ((w5.alloc (Obj.cells #[v1, v2, v3, v4, v5] 91)).alloc (Obj.cells #[.string ⟨#[]⟩, .slice none 0 0, .int .i64 0, .slice (some ⟨w5.heap.size, 0, none⟩) 5 5] 41)) := ((Below.refl _ _).alloc (Nat.le_refl _) _).alloc (by simp) _
  have hK : OwnK ((w5.alloc (Obj.cells #[v1, v2, v3, v4, v5] 91)).alloc (Obj.cells #[.string ⟨#[]⟩, .slice none 0 0, .int .i64 0, .slice (some ⟨w5.heap.size, 0, none⟩) 5 5] 41)) w.heap.size (.slice (some ⟨w5.heap.size, 0, none⟩) 5 5) livesB := by
    refine ⟨[v1, v2, v3, v4, v5], rfl, ⟨rfl, .inr ⟨w5.heap.size, 5, _, rfl, hs5, box_under _ _ _, Nat.le_refl _, by simp [maxLen], rfl, rfl⟩⟩, fun i x b h1 h2 => ?_⟩
    match i with
    | 0 => cases h1; cases h2; exact hC1.out.below hk1
    | 1 => cases h1; cases h2; exact hC2.out.below hk1
    | 2 => cases h1; cases h2; exact hC3.out.below hk1
    | 3 => cases h1; cases h2; exact hC4.out.below hk1
    | 4 => cases h1; cases h2; exact hC5.out.below hk1
    | i + 5 => simp at h1
  obtain ⟨W, hW, hwW, hWs, -, hx⟩ := boxes2 w5 #[v1, v2, v3, v4, v5] #[.string ⟨#[]⟩, .slice none 0 0, .int .i64 0, .slice (some ⟨w5.heap.size, 0, none⟩) 5 5] 91 41
  rw [hW] at hK ⊢
  have q0 : ∀ w', Below W.heap.size W w' → w'.cell? ⟨w5.heap.size + 1, 0, none⟩ = some (.string ⟨#[]⟩) := hx 0 _ rfl
  have q1 : ∀ w', Below W.heap.size W w' → w'.cell? ⟨w5.heap.size + 1, 1, none⟩ = some (.slice none 0 0) := hx 1 _ rfl
  have q2 : ∀ w', Below W.heap.size W w' → w'.cell? ⟨w5.heap.size + 1, 2, none⟩ = some (.int .i64 0) := hx 2 _ rfl
  have q3 : ∀ w', Below W.heap.size W w' → w'.cell? ⟨w5.heap.size + 1, 3, none⟩ = some (.slice (some ⟨w5.heap.size, 0, none⟩) 5 5) := hx 3 _ rfl
  have hf : Hid (RFun.rep W W.heap.size [.string livesFn.name, .slice none 0 0, .int .i64 livesFn.ret, .slice (some ⟨w5.heap.size, 0, none⟩) 5 5] livesFn) := hide ⟨_, _, rfl, OwnI.nil_.rep (B := 0), hK.rep, by decide, by decide⟩
  have hwW9 : Hid (Below w.heap.size w W) := hide (hbel5.out.trans (hwW.mono hs5))
  have hWs9 : Hid (w.heap.size ≤ W.heap.size) := hide hwW9.out.size
  clear hx hk1 hK hC1 hC2 hC3 hC4 hC5 hW hwW hbel5 hs5 hself
  replace hWs := hide hWs
  have hself := Below.refl W.heap.size W
  have cR : Hid (∀ w', Below W.heap.size W w' → Calls Try.prog 27 #[.agg #[.string ⟨#[]⟩, .slice none 0 0, .int .i64 0, .slice (some ⟨w5.heap.size, 0, none⟩) 5 5]] w' (ReachPost 5 [true, true, true, true, false] w')) := hide (fun w' h => by
    have := reach_any livesFn (.slice none 0 0) (.slice (some ⟨w5.heap.size, 0, none⟩) 5 5) w' w'.heap.size (Nat.le_refl _) (RFun.later hf.out h h.size) lives_small
    rwa [show livesFn.blocks = livesB from rfl, lives_reach] at this)
  have cO : Hid (∀ w', Below W.heap.size W w' → Calls Try.prog 26 #[.agg #[.string ⟨#[]⟩, .slice none 0 0, .int .i64 0, .slice (some ⟨w5.heap.size, 0, none⟩) 5 5]] w' (OrdPost [0, 1, 2, 3] w')) := hide (fun w' h => by
    have := order_any livesFn (.slice none 0 0) (.slice (some ⟨w5.heap.size, 0, none⟩) 5 5) w' w'.heap.size (Nat.le_refl _) (RFun.later hf.out h h.size) lives_small
    rwa [show livesFn.blocks = livesB from rfl, lives_order] at this)
  have cS : Hid (∀ w', Below W.heap.size W w' → Calls Try.prog 29 #[.agg #[.string ⟨#[]⟩, .slice none 0 0, .int .i64 0, .slice (some ⟨w5.heap.size, 0, none⟩) 5 5], .int .i64 0] w' (SuccPost [2, 1] w')) := hide (fun w' h => by
    have := succs_any livesFn 0 (.slice none 0 0) (.slice (some ⟨w5.heap.size, 0, none⟩) 5 5) w' w'.heap.size (Nat.le_refl _) (RFun.later hf.out h h.size) lives_small
    rwa [show livesFn.blocks = livesB from rfl, lives_s0] at this)
  clear hf
  go_wp2_with (fail)
  refine (cR.out W hself).mono ?_
  rintro e w6 ⟨g6, rfl, hR6, hb6⟩
  have r3 : ∀ w', Below w6.heap.size w6 w' → w'.cell? ⟨g6, 3, none⟩ = some (.bool true) := fun w' h => (h.cell (p := ⟨g6, 3, none⟩) (row_lt hR6 rfl).2.1).trans (OwnB.cell hR6 rfl (by decide))
  have r4 : ∀ w', Below w6.heap.size w6 w' → w'.cell? ⟨g6, 4, none⟩ = some (.bool false) := fun w' h => (h.cell (p := ⟨g6, 4, none⟩) (row_lt hR6 rfl).2.1).trans (OwnB.cell hR6 rfl (by decide))
  have hs6 := hb6.size
  have hself6 := Below.refl w6.heap.size w6
  replace hR6 := hide hR6
  go_wp2_with (fail)
  refine (cO.out _ hb6).mono ?_
  rintro e w7 ⟨v7, rfl, hO7, hb7⟩
  have hs7 := hb7.size
  have hO7' := hide hO7
  clear hO7
  go_wp2_with (fail)
  have k7 := bk w7 (.cells #[.int .i64 0, .int .i64 1, .int .i64 2, .int .i64 3] 3)
  refine (rints_any _ _ [0, 1, 2, 3] [0, 1, 2, 3] _ _ (Nat.le_refl _) (hO7'.out.kept fun k _ hk => k7.block k hk).rep (own_lit (l := [0, 1, 2, 3]) rfl rfl (by decide) rfl (Nat.le_refl _) (by decide)).rep).mono ?_
  rintro e w8 ⟨rfl, hb8⟩
  rw [show (([0, 1, 2, 3] : List Int) == [0, 1, 2, 3]) = true from rfl]
  have hb68 := hb7.trans ((bstep hb8).mono hs7)
  have hbW8 := hb6.trans (hb68.mono hs6)
  clear hb8 k7 hO7' hb7 hs7
  go_wp2_with (fail)
  refine (cS.out _ hbW8).mono ?_
  rintro e w9 ⟨v9, rfl, hO9, hb9⟩
  have hs8 := hbW8.size
  have hs9 := hb9.size
  have hO9' := hide hO9
  clear hO9
  go_wp2_with (fail)
  have k9 := bk w9 (.cells #[.int .i64 2, .int .i64 1] 3)
  refine (rints_any _ _ [2, 1] [2, 1] _ _ (Nat.le_refl _) (hO9'.out.kept fun k _ hk => k9.block k hk).rep (own_lit (l := [2, 1]) rfl rfl (by decide) rfl (Nat.le_refl _) (by decide)).rep).mono ?_
  rintro e w10 ⟨rfl, hb10⟩
  rw [show (([2, 1] : List Int) == [2, 1]) = true from rfl]
  have hb9W := hbW8.trans ((hb9.trans ((bstep hb10).mono hs9)).mono hs8)
  clear hb10 k9 hO9' hb9 hs9
  go_wp2
  go_ret
  exact ⟨rfl, hwW9.out.trans (hb9W.mono hWs9.out)⟩
end Go.Proofs.Ytffklfalocamiaa
