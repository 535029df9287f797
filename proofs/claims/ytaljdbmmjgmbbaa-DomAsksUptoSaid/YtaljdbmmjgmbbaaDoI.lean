/- The law DomAsks, walked. No condition but sizes. -/
import Derived.Test.YtaljdbmmjgmbbaaDoH
namespace Go.Proofs.Ytaljdbmmjgmbbaa
open Go.RowKit
set_option linter.unusedSimpArgs false
set_option linter.unusedVariables false

set_option maxRecDepth 100000 in
set_option maxHeartbeats 12800000 in
theorem law_dom_asks (f : Fun) (a b : Int) (c1 c2 : Value) (w : World) (hf : RFun.rep w w.heap.size [.string f.name, c1, .int .i64 f.ret, c2] f) (hs : Small f) (hsz : funSz f ≤ 2000000) :
    Calls Try.prog 8 #[f.v c1 c2, .int .i64 a, .int .i64 b] w (LawPost w) := by
  obtain ⟨hp, hb⟩ := fun_open (RFun.later hf (Below.refl _ _) (Nat.le_refl _))
  obtain ⟨A1, k1, h1, -, -⟩ := Rp.slice1_open hp
  obtain ⟨A2, k2, h2, hm2, -⟩ := Rp.slice1_open hb
  cases h1; cases h2
  clear hp hb
  obtain ⟨n, hn⟩ : ∃ n, Hid (n = f.blocks.length) := ⟨_, hide rfl⟩
  have hnle : n ≤ 2000000 := by rw [hn.out]; exact hs.blocks
  obtain ⟨O, hO⟩ : ∃ O, Hid (O = orderF f.blocks) := ⟨_, hide rfl⟩
  obtain ⟨sc, hsc⟩ : ∃ sc, Hid (sc = succsF f.blocks) := ⟨_, hide rfl⟩
  obtain ⟨R, hR⟩ : ∃ R, Hid (R = reachF f.blocks) := ⟨_, hide rfl⟩
  obtain ⟨P, hP⟩ : ∃ P, Hid (P = predsL sc n) := ⟨_, hide rfl⟩
  have hPl : P.length = n := by rw [hP.out, predsL_len]
  have hRl : R.length = n := by rw [hR.out, hn.out, reach_len]
  have hsok : Hid (∀ b, SuccOk n (sc b)) := hide (fun b => by rw [hsc.out, hn.out]; exact succsF_ok _ _)
  have hok : Hid (OrderOk n sc O) := hide (by rw [hO.out, hn.out, hsc.out]; exact order_ok _)
  have hol : O.length ≤ n := by rw [hO.out, hn.out]; exact order_len _
  have hRat : Hid (∀ k : Nat, k < n → R[k]? = some (decide ((k : Int) ∈ O))) := hide (fun k hk => by rw [hR.out, hO.out]; exact reach_at _ _ (by rw [← hn.out]; exact hk))
  rw [← hn.out]
  rw [← hn.out] at hf hm2
  obtain ⟨W, hW, hwW, hWs, hx⟩ := boxes1 w #[.string f.name, .slice A1 f.params.length k1, .int .i64 f.ret, .slice A2 n k2] 25
  have q0 : ∀ w', Below W.heap.size W w' → w'.cell? ⟨w.heap.size, 0, none⟩ = some (.string f.name) := hx 0 _ rfl
  have q1 : ∀ w', Below W.heap.size W w' → w'.cell? ⟨w.heap.size, 1, none⟩ = some (.slice A1 f.params.length k1) := hx 1 _ rfl
  have q2 : ∀ w', Below W.heap.size W w' → w'.cell? ⟨w.heap.size, 2, none⟩ = some (.int .i64 f.ret) := hx 2 _ rfl
  have q3 : ∀ w', Below W.heap.size W w' → w'.cell? ⟨w.heap.size, 3, none⟩ = some (.slice A2 n k2) := hx 3 _ rfl
  clear hx
  have hws : w.heap.size ≤ W.heap.size := by omega
  replace hWs := hide hWs
  have hself := Below.refl W.heap.size W
  have hF : Hid (∀ w', Below W.heap.size W w' → RFun.rep w' w'.heap.size [.string f.name, .slice A1 f.params.length k1, .int .i64 f.ret, .slice A2 n k2] f) := hide (fun w' h => RFun.later hf (hwW.trans (h.mono hws)) (hwW.trans (h.mono hws)).size)
  obtain ⟨lb, hlb⟩ : ∃ lb, Hid (lb = long7F f) := ⟨_, hide rfl⟩
  have cL : Hid (∀ w', Below W.heap.size W w' → Calls Try.prog 36 #[f.v (.slice A1 f.params.length k1) (.slice A2 n k2)] w' (RetB lb w')) := hide (fun w' h => by
    have := long07_any f (.slice A1 f.params.length k1) (.slice A2 n k2) w' w'.heap.size (Nat.le_refl _) (hF.out w' h) hsz
    rwa [← hlb.out] at this)
  have cD : Hid (∀ (a b : Int) w', Below W.heap.size W w' → Calls Try.prog 37 #[f.v (.slice A1 f.params.length k1) (.slice A2 n k2), .int .i64 a, .int .i64 b] w' (RetB (domB sc O a b) w')) := hide (fun (a b : Int) w' h => by
    have := dominates_bb f a b (.slice A1 f.params.length k1) (.slice A2 n k2) w' w'.heap.size (Nat.le_refl _) (hF.out w' h) hs
    rwa [← hO.out, ← hsc.out] at this)
  have cRD : Hid (∀ (a b : Int) w', Below W.heap.size W w' → Calls Try.prog 38 #[f.v (.slice A1 f.params.length k1) (.slice A2 n k2), .int .i64 a, .int .i64 b] w' (RetB (domB sc O a b) w')) := hide (fun (a b : Int) w' h => by
    have := rdominates_any f a b (.slice A1 f.params.length k1) (.slice A2 n k2) w' w'.heap.size (Nat.le_refl _) (hF.out w' h) hs
    rwa [← hO.out, ← hsc.out] at this)
  replace hs := hide hs
  replace hf := hide hf
  replace hwW := hide hwW
  obtain ⟨d, hd⟩ : ∃ d, Hid (d = domB sc O a b) := ⟨_, hide rfl⟩
  have c1 := hide (cD.out a b)
  have c2 := hide (cRD.out a b)
  rw [← hd.out] at c1 c2
  clear cD cRD
  go_enter Try.func8, Try.ntmps8
  go_wp2_with (fail)
  refine (lives07_any _).mono ?_
  rintro e w1 ⟨rfl, hb1⟩
  have hdd : (d == d) = true := by simp
  cases lb with
  | true =>
    go_upto_region 3 with (fail)
    refine region_below (by kernel_rfl) (by kernel_rfl) hb1 ?_
    repeat (first
      | go_big_quiet_skip
      | (go_big_quiet_want; go_big_quiet_op; go_big_quiet_on)
      | (go_big_quiet_want
         apply Exists.intro
         refine ⟨fun w9 hw9 => ?_, ?_⟩
         · go_simp
           first
             | rfl
             | exact ret_class (cL.out _ hw9) hw9
             | exact ret_class (c1.out _ hw9) hw9
             | exact ret_class (c2.out _ hw9) hw9
         go_simp
         go_big_quiet_on))
    refine wpQuiet_nil ?_
    intro w9 hw9
    go_wp2
    go_ret
    exact ⟨rfl, hwW.out.trans (hw9.mono hws)⟩
  | false =>
    go_upto_region 3 with (fail)
    refine region_below (by kernel_rfl) (by kernel_rfl) hb1 ?_
    repeat (first
      | go_big_quiet_skip
      | (go_big_quiet_want; go_big_quiet_op; go_big_quiet_on)
      | (go_big_quiet_want
         apply Exists.intro
         refine ⟨fun w9 hw9 => ?_, ?_⟩
         · go_simp
           first
             | rfl
             | exact ret_class (cL.out _ hw9) hw9
             | exact ret_class (c1.out _ hw9) hw9
             | exact ret_class (c2.out _ hw9) hw9
         go_simp
         go_big_quiet_on))
    refine wpQuiet_nil ?_
    intro w9 hw9
    go_wp2
    go_ret
    exact ⟨rfl, hwW.out.trans (hw9.mono hws)⟩
end Go.Proofs.Ytaljdbmmjgmbbaa
