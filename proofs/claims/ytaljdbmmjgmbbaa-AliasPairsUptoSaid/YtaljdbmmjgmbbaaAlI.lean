/- The law AliasPairs, walked. No condition but sizes. -/
import Derived.Test.YtaljdbmmjgmbbaaAlH
namespace Go.Proofs.Ytaljdbmmjgmbbaa
open Go.RowKit
set_option linter.unusedSimpArgs false
set_option linter.unusedVariables false

set_option maxRecDepth 100000 in
set_option maxHeartbeats 6400000 in
theorem law_alias_pairs (f : Fun) (p q r : Opd) (t u x : Int) (hp : I64 p.kind ∧ I64 p.num) (hq : I64 q.kind ∧ I64 q.num) (hr : I64 r.kind ∧ I64 r.num) (c1 c2 : Value) (w : World) (hf : RFun.rep w w.heap.size [.string f.name, c1, .int .i64 f.ret, c2] f) (hsz : funSz f ≤ 2000000) :
    Calls Try.prog 3 #[f.v c1 c2, .agg #[.int .i64 p.kind, .int .i64 p.num, .int .u64 p.bits], .agg #[.int .i64 q.kind, .int .i64 q.num, .int .u64 q.bits], .agg #[.int .i64 r.kind, .int .i64 r.num, .int .u64 r.bits], .int .i64 t, .int .i64 u, .int .i64 x] w (LawPost w) := by
  obtain ⟨hpp, hb⟩ := fun_open (RFun.later hf (Below.refl _ _) (Nat.le_refl _))
  obtain ⟨A1, k1, h1, hnp, -⟩ := Rp.slice1_open hpp
  obtain ⟨A2, k2, h2, hm2, -⟩ := Rp.slice1_open hb
  cases h1; cases h2
  clear hpp hb
  obtain ⟨n, hn⟩ : ∃ n, Hid (n = f.blocks.length) := ⟨_, hide rfl⟩
  obtain ⟨np, hnpe⟩ : ∃ np, Hid (np = f.params.length) := ⟨_, hide rfl⟩
  rw [← hn.out] at hf hm2 ⊢
  rw [← hnpe.out] at hf hnp ⊢
  obtain ⟨W, hW, hwW, hWs, hx0, hx1, hx2, hx3⟩ := boxes4 w #[.string f.name, .slice A1 np k1, .int .i64 f.ret, .slice A2 n k2] #[.int .i64 p.kind, .int .i64 p.num, .int .u64 p.bits] #[.int .i64 q.kind, .int .i64 q.num, .int .u64 q.bits] #[.int .i64 r.kind, .int .i64 r.num, .int .u64 r.bits] 25 28 28 28
  have q0 : ∀ w', Below W.heap.size W w' → w'.cell? ⟨w.heap.size, 0, none⟩ = some (.string f.name) := hx0 0 _ rfl
  have q1 : ∀ w', Below W.heap.size W w' → w'.cell? ⟨w.heap.size, 1, none⟩ = some (.slice A1 np k1) := hx0 1 _ rfl
  have q2 : ∀ w', Below W.heap.size W w' → w'.cell? ⟨w.heap.size, 2, none⟩ = some (.int .i64 f.ret) := hx0 2 _ rfl
  have q3 : ∀ w', Below W.heap.size W w' → w'.cell? ⟨w.heap.size, 3, none⟩ = some (.slice A2 n k2) := hx0 3 _ rfl
  have a0 := hx1 0 _ rfl
  have a1 := hx1 1 _ rfl
  have a2 := hx1 2 _ rfl
  have b0 := hx2 0 _ rfl
  have b1 := hx2 1 _ rfl
  have b2 := hx2 2 _ rfl
  have d0 := hx3 0 _ rfl
  have d1 := hx3 1 _ rfl
  have d2 := hx3 2 _ rfl
  clear hx0 hx1 hx2 hx3
  have hws : w.heap.size ≤ W.heap.size := by omega
  replace hWs := hide hWs
  have hself := Below.refl W.heap.size W
  have hF : Hid (∀ w', Below W.heap.size W w' → RFun.rep w' w'.heap.size [.string f.name, .slice A1 np k1, .int .i64 f.ret, .slice A2 n k2] f) := hide (fun w' h => RFun.later hf (hwW.trans (h.mono hws)) (hwW.trans (h.mono hws)).size)
  obtain ⟨lb, hlb⟩ : ∃ lb, Hid (lb = long18F f) := ⟨_, hide rfl⟩
  have cL : Hid (∀ w', Below W.heap.size W w' → Calls Try.prog 15 #[f.v (.slice A1 np k1) (.slice A2 n k2)] w' (RetB lb w')) := hide (fun w' h => by
    have := long18_any f (.slice A1 np k1) (.slice A2 n k2) w' w'.heap.size (Nat.le_refl _) (hF.out w' h) hsz
    rwa [← hlb.out] at this)
  have cA : Hid (∀ (p q : Opd) (t u z : Int), I64 p.kind ∧ I64 p.num → I64 q.kind ∧ I64 q.num → askS np f.blocks p t q u = z → ∀ w', Below W.heap.size W w' → Calls Try.prog 16 #[f.v (.slice A1 np k1) (.slice A2 n k2), .agg #[.int .i64 p.kind, .int .i64 p.num, .int .u64 p.bits], .int .i64 t, .agg #[.int .i64 q.kind, .int .i64 q.num, .int .u64 q.bits], .int .i64 u] w' (RetV (.int .i64 z) w')) := hide (fun p q t u z hp hq hz w' h => by
    have := asked_any f p q t u hp hq (.slice A1 np k1) (.slice A2 n k2) w' w'.heap.size (Nat.le_refl _) (hF.out w' h) hsz
    rwa [← hnpe.out, hz] at this)
  obtain ⟨m, hm⟩ : ∃ m, Hid (m = askS np f.blocks p t q u) := ⟨_, hide rfl⟩
  have hm0 : 0 ≤ m ∧ m ≤ 2 := by rw [hm.out]; exact ask_range _ _ _ _ _ _
  have c1 := hide (cA.out p q t u m hp hq hm.out.symm)
  have c2 := hide (cA.out q p u t m hq hp (by rw [hm.out]; exact ask_comm _ _ _ _ _ _))
  obtain ⟨y, hy⟩ : ∃ y, Hid (y = askS np f.blocks p t r x) := ⟨_, hide rfl⟩
  have c3 := hide (cA.out p r t x y hp hr hy.out.symm)
  have c4 : Hid (m = 2 → ∀ w', Below W.heap.size W w' → Calls Try.prog 16 #[f.v (.slice A1 np k1) (.slice A2 n k2), .agg #[.int .i64 q.kind, .int .i64 q.num, .int .u64 q.bits], .int .i64 u, .agg #[.int .i64 r.kind, .int .i64 r.num, .int .u64 r.bits], .int .i64 x] w' (RetV (.int .i64 y) w')) := hide (fun h => cA.out q r u x y hq hr (by rw [hy.out]; exact (ask_two (hm.out.symm.trans h)).symm))
  obtain ⟨hm1, hm2'⟩ := hm0
  replace hwW := hide hwW
  replace hf := hide hf
  replace hp := hide hp
  replace hq := hide hq
  replace hr := hide hr
  clear cA hF
  go_enter Try.func3, Try.ntmps3
  go_wp2_with (fail)
  refine (lives18_any _).mono ?_
  rintro e w1 ⟨rfl, hb1⟩
  go_wp2_with (fail)
  refine (cL.out _ hb1).mono ?_
  rintro e w2 ⟨rfl, hb2⟩
  have hk2 := hb1.trans (hb2.mono hb1.size)
  clear hb1 hb2 cL
  cases lb with
  | true =>
    go_wp2
    go_ret
    exact ⟨rfl, hwW.out.trans (hk2.mono hws)⟩
  | false =>
    go_wp2_with (fail)
    refine (c1.out _ hk2).mono ?_
    rintro e w3 ⟨rfl, hb3⟩
    have hk3 := hk2.trans (hb3.mono hk2.size)
    clear hb3 hk2
    have hmm : (m != m) = false := by simp
    go_wp2_with (fail)
    refine (c2.out _ hk3).mono ?_
    rintro e w4 ⟨rfl, hb4⟩
    have hk4 := hk3.trans (hb4.mono hk3.size)
    clear hb4 hk3
    have hyy : (y == y) = true := by simp
    by_cases h2 : m = 2
    · have c5 := hide (c4.out h2)
      subst h2
      go_upto_region 8 with (fail)
      refine region_below (by kernel_rfl) (by kernel_rfl) hk4 ?_
      repeat (first
        | go_big_quiet_skip
        | (go_big_quiet_want; go_big_quiet_op; go_big_quiet_on)
        | (go_big_quiet_want
           apply Exists.intro
           refine ⟨fun w9 hw9 => ?_, ?_⟩
           · go_simp
             first
               | with_reducible exact ret_classv (c3.out _ hw9) hw9
               | with_reducible exact ret_classv (c5.out _ hw9) hw9
               | rfl
           go_simp
           go_big_quiet_on))
      refine wpQuiet_nil ?_
      intro w9 hw9
      go_wp2
      go_ret
      exact ⟨rfl, hwW.out.trans (hw9.mono hws)⟩
    · clear c3 c4
      have h3 : m = 0 ∨ m = 1 := by omega
      clear h2
      rcases h3 with rfl | rfl
      · clear hm1 hm2'
        go_upto_region 8 with (fail)
        refine region_below (by kernel_rfl) (by kernel_rfl) hk4 ?_
        repeat (first
          | go_big_quiet_skip
          | (go_big_quiet_want; go_big_quiet_op; go_big_quiet_on)
          | (go_big_quiet_want
             apply Exists.intro
             refine ⟨fun w9 hw9 => ?_, ?_⟩
             · go_simp
               rfl
             go_simp
             go_big_quiet_on))
        refine wpQuiet_nil ?_
        intro w9 hw9
        go_wp2
        go_ret
        exact ⟨rfl, hwW.out.trans (hw9.mono hws)⟩
      · clear hm1 hm2'
        go_upto_region 8 with (fail)
        refine region_below (by kernel_rfl) (by kernel_rfl) hk4 ?_
        repeat (first
          | go_big_quiet_skip
          | (go_big_quiet_want; go_big_quiet_op; go_big_quiet_on)
          | (go_big_quiet_want
             apply Exists.intro
             refine ⟨fun w9 hw9 => ?_, ?_⟩
             · go_simp
               rfl
             go_simp
             go_big_quiet_on))
        refine wpQuiet_nil ?_
        intro w9 hw9
        go_wp2
        go_ret
        exact ⟨rfl, hwW.out.trans (hw9.mono hws)⟩
end Go.Proofs.Ytaljdbmmjgmbbaa
