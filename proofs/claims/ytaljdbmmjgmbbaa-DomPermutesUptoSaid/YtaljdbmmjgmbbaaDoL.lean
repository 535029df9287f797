/- The law DomPermutes, walked. No condition but sizes. -/
import Derived.Test.YtaljdbmmjgmbbaaDoG
import Derived.Test.YtaljdbmmjgmbbaaDoJ
import Derived.Test.YtaljdbmmjgmbbaaGrZc
namespace Go.Proofs.Ytaljdbmmjgmbbaa
open Go.RowKit
set_option linter.unusedSimpArgs false
set_option linter.unusedVariables false

theorem pick_mv (a : Int) {n : Nat} (h3 : 3 ≤ n) (hn : n ≤ 2000000) : ∃ A : Nat, Hid (0 < A ∧ A < n) ∧ Hid (wrap64 (1 + wrap64 ((IntKind.u64.wrap a).tmod ((n : Int) - 1))) = (A : Int)) := by
  have h0 : 0 ≤ IntKind.u64.wrap a := wrap_u64_nonneg a
  have h1 : 0 ≤ (IntKind.u64.wrap a) % ((n : Int) - 1) := Int.emod_nonneg _ (by omega)
  have h2 : (IntKind.u64.wrap a) % ((n : Int) - 1) < (n : Int) - 1 := Int.emod_lt_of_pos _ (by omega)
  refine ⟨(1 + (IntKind.u64.wrap a) % ((n : Int) - 1)).toNat, hide ⟨by omega, by omega⟩, hide ?_⟩
  have hw : ∀ z : Int, 0 ≤ z → z ≤ 9223372036854775807 → wrap64 z = z := fun z _ _ => by unfold wrap64; omega
  rw [Int.tmod_eq_emod_of_nonneg h0, hw ((IntKind.u64.wrap a) % ((n : Int) - 1)) (by omega) (by omega), hw _ (by omega) (by omega), Int.toNat_of_nonneg (by omega)]
theorem swap_mem {a b : Nat} {bs : List (List Ins)} (ha : a < bs.length) (hb : b < bs.length) {x : List Ins} (hx : x ∈ swapS a b bs) : ∃ y, y ∈ bs ∧ x = y.map (mvIns a b) := by
  have hm : ∀ k, k < bs.length → ∃ y, y ∈ bs ∧ (mvAll a b bs).getD k [] = y.map (mvIns a b) := fun k hk => ⟨bs[k], List.getElem_mem hk, by simp [mvAll, List.getD, hk]⟩
  unfold swapS at hx
  rcases List.mem_or_eq_of_mem_set hx with hx | rfl
  · rcases List.mem_or_eq_of_mem_set hx with hx | rfl
    · unfold mvAll at hx
      obtain ⟨y, hy, rfl⟩ := List.mem_map.1 hx
      exact ⟨y, hy, rfl⟩
    · exact hm b hb
  · exact hm a ha
theorem small_swap {f : Fun} {a b : Nat} (hs : Small f) (ha : a < f.blocks.length) (hb : b < f.blocks.length) : Small (setBlocks f (swapS a b f.blocks)) := by
  refine ⟨hs.params, by show (swapS a b f.blocks).length ≤ _; rw [swap_len]; exact hs.blocks, fun x hx => ?_⟩
  obtain ⟨y, hy, rfl⟩ := swap_mem ha hb hx
  obtain ⟨h1, h2⟩ := hs.code y hy
  refine ⟨by rw [List.length_map]; exact h1, fun i hi => ?_⟩
  obtain ⟨j, hj, rfl⟩ := List.mem_map.1 hi
  exact ⟨(h2 j hj).1, by show (j.to.map _).length ≤ _; rw [List.length_map]; exact (h2 j hj).2⟩
theorem IdomOk.within {sc : Int → List Int} {o l : List Int} {n k : Nat} {u : Int} (I : IdomOk sc o n l) (O : OrderOk n sc o) (h : l[k]? = some u) : -1 ≤ u ∧ u < n := I.ok O u (List.mem_of_getElem? h)
set_option maxRecDepth 100000 in
set_option maxHeartbeats 12800000 in
theorem law_dom_permutes (f : Fun) (a b : Int) (c1 c2 : Value) (w : World) (hf : RFun.rep w w.heap.size [.string f.name, c1, .int .i64 f.ret, c2] f) (hs : Small f) (hsz : funSz f ≤ 2000000) :
    Calls Try.prog 11 #[f.v c1 c2, .int .i64 a, .int .i64 b] w (LawPost w) := by
  obtain ⟨hp, hb⟩ := fun_open (RFun.later hf (Below.refl _ _) (Nat.le_refl _))
  obtain ⟨A1, k1, h1, -, -⟩ := Rp.slice1_open hp
  obtain ⟨A2, k2, h2, hm2, -⟩ := Rp.slice1_open hb
  cases h1; cases h2
  clear hp hb
  obtain ⟨n, hn⟩ : ∃ n, Hid (n = f.blocks.length) := ⟨_, hide rfl⟩
  have hnle : n ≤ 2000000 := by rw [hn.out]; exact hs.blocks
  obtain ⟨O, hO⟩ : ∃ O, Hid (O = orderF f.blocks) := ⟨_, hide rfl⟩
  obtain ⟨sc, hsc⟩ : ∃ sc, Hid (sc = succsF f.blocks) := ⟨_, hide rfl⟩
  obtain ⟨R, hR⟩ : ∃ R, Hid (R = reachF f.blocks) := ⟨_, hide rfl⟩
  obtain ⟨P, hP⟩ : ∃ P, Hid (P = predsL sc n) := ⟨_, hide rfl⟩
  have hPl : P.length = n := by rw [hP.out, predsL_len]
  have hRl : R.length = n := by rw [hR.out, hn.out, reach_len]
  have hsok : Hid (∀ b, SuccOk n (sc b)) := hide (fun b => by rw [hsc.out, hn.out]; exact succsF_ok _ _)
  have hok : Hid (OrderOk n sc O) := hide (by rw [hO.out, hn.out, hsc.out]; exact order_ok _)
  have hol : O.length ≤ n := by rw [hO.out, hn.out]; exact order_len _
  have hRat : Hid (∀ k : Nat, k < n → R[k]? = some (decide ((k : Int) ∈ O))) := hide (fun k hk => by rw [hR.out, hO.out]; exact reach_at _ _ (by rw [← hn.out]; exact hk))
  rw [← hn.out]
  rw [← hn.out] at hf hm2
  obtain ⟨W, hW, hwW, hWs, hx⟩ := boxes1 w #[.string f.name, .slice A1 f.params.length k1, .int .i64 f.ret, .slice A2 n k2] 25
  have q0 : ∀ w', Below W.heap.size W w' → w'.cell? ⟨w.heap.size, 0, none⟩ = some (.string f.name) := hx 0 _ rfl
  have q1 : ∀ w', Below W.heap.size W w' → w'.cell? ⟨w.heap.size, 1, none⟩ = some (.slice A1 f.params.length k1) := hx 1 _ rfl
  have q2 : ∀ w', Below W.heap.size W w' → w'.cell? ⟨w.heap.size, 2, none⟩ = some (.int .i64 f.ret) := hx 2 _ rfl
  have q3 : ∀ w', Below W.heap.size W w' → w'.cell? ⟨w.heap.size, 3, none⟩ = some (.slice A2 n k2) := hx 3 _ rfl
  clear hx
  have hws : w.heap.size ≤ W.heap.size := by omega
  replace hWs := hide hWs
  have hself := Below.refl W.heap.size W
  have hF : Hid (∀ w', Below W.heap.size W w' → RFun.rep w' w'.heap.size [.string f.name, .slice A1 f.params.length k1, .int .i64 f.ret, .slice A2 n k2] f) := hide (fun w' h => RFun.later hf (hwW.trans (h.mono hws)) (hwW.trans (h.mono hws)).size)
  have cI : Hid (∀ w', Below W.heap.size W w' → Calls Try.prog 40 #[f.v (.slice A1 f.params.length k1) (.slice A2 n k2)] w' (IdomPost sc O n w')) := hide (fun w' h => by
    have := idom_any f (.slice A1 f.params.length k1) (.slice A2 n k2) w' w'.heap.size (Nat.le_refl _) (hF.out w' h) hs
    rwa [← hn.out, ← hO.out, ← hsc.out] at this)
  obtain ⟨lb, hlb⟩ : ∃ lb, Hid (lb = long7F f) := ⟨_, hide rfl⟩
  have cL : Hid (∀ w', Below W.heap.size W w' → Calls Try.prog 36 #[f.v (.slice A1 f.params.length k1) (.slice A2 n k2)] w' (RetB lb w')) := hide (fun w' h => by
    have := long07_any f (.slice A1 f.params.length k1) (.slice A2 n k2) w' w'.heap.size (Nat.le_refl _) (hF.out w' h) hsz
    rwa [← hlb.out] at this)
  replace hs := hide hs
  replace hf := hide hf
  replace hwW := hide hwW
  go_enter Try.func11, Try.ntmps11
  go_wp2_with (fail)
  refine (lives07_any _).mono ?_
  rintro e w1 ⟨rfl, hb1⟩
  go_wp2_with (fail)
  refine (cL.out _ hb1).mono ?_
  rintro e w2 ⟨rfl, hb2⟩
  have hbel2 := hb1.trans (hb2.mono hb1.size)
  clear hb1 hb2 cL
  cases lb with
  | true =>
    go_wp2
    go_ret
    exact ⟨rfl, hwW.out.trans (hbel2.mono hws)⟩
  | false =>
    by_cases hn3 : n < 3
    · have hn3i : (n : Int) < 3 := by omega
      go_wp2
      go_ret
      exact ⟨rfl, hwW.out.trans (hbel2.mono hws)⟩
    · have hn3i : ¬ (n : Int) < 3 := by omega
      go_upto_region 6 with (fail)
      go_quiet (fail)
      have hbel3 : Below W.heap.size W (w2.drewN nq) := below_drewN hbel2 _
      obtain ⟨w3, hw3⟩ : ∃ w3, w3 = w2.drewN nq := ⟨_, rfl⟩
      rw [← hw3] at hbel3 ⊢
      clear hw3 hbel2
      obtain ⟨A, hAn, hAe⟩ := pick_mv a (n := n) (by omega) hnle
      obtain ⟨B, hBn, hBe⟩ := pick_mv b (n := n) (by omega) hnle
      rw [hAe.out, hBe.out]
      clear hAe hBe
      have hAB1 : Hid (0 < A ∧ A < f.blocks.length) := hide (by rw [← hn.out]; exact hAn.out)
      have hAB2 : Hid (0 < B ∧ B < f.blocks.length) := hide (by rw [← hn.out]; exact hBn.out)
      have hsm2 := hide (small_swap hs.out hAB1.out.2 hAB2.out.2)
      have cW : Hid (∀ w', Below W.heap.size W w' → Calls Try.prog 43 #[f.v (.slice A1 f.params.length k1) (.slice A2 n k2), .int .i64 A, .int .i64 B] w' (SwapPost A B f w')) := hide (fun w' h => swapped_any f A B (.slice A1 f.params.length k1) (.slice A2 n k2) w' w'.heap.size (Nat.le_refl _) (hF.out w' h) hs.out hAB1.out.2 hAB2.out.2)
      obtain ⟨sc2, hsc2⟩ : ∃ sc2, Hid (sc2 = succsF (swapS A B f.blocks)) := ⟨_, hide rfl⟩
      have hok2 : Hid (OrderOk n sc2 (O.map (mv A B))) := hide (by
        have := order_ok (swapS A B f.blocks)
        rwa [swap_len, ← hn.out, order_mv hAB1.out hAB2.out, ← hO.out, ← hsc2.out] at this)
      have hmv2 : Hid (∀ x, sc2 (mv A B x) = (sc x).map (mv A B)) := hide (fun x => by rw [hsc2.out, hsc.out]; exact succsF_mv hAB1.out.2 hAB2.out.2 x)
      have cI2 : Hid (∀ (Ag Dg : Option Addr) (Cg Eg : Nat) w', RFun.rep w' w'.heap.size [.string f.name, .slice Ag f.params.length Cg, .int .i64 f.ret, .slice Dg n Eg] (setBlocks f (swapS A B f.blocks)) → Calls Try.prog 40 #[f.v (.slice Ag f.params.length Cg) (.slice Dg n Eg)] w' (IdomPost sc2 (O.map (mv A B)) n w')) := hide (fun Ag Dg Cg Eg w' h => by
        have := idom_any (setBlocks f (swapS A B f.blocks)) (.slice Ag f.params.length Cg) (.slice Dg n Eg) w' w'.heap.size (Nat.le_refl _) h hsm2.out
        rwa [show (setBlocks f (swapS A B f.blocks)).blocks = swapS A B f.blocks from rfl, swap_len, order_mv hAB1.out hAB2.out, ← hO.out, ← hsc2.out, ← hn.out] at this)
      have hs3 := hbel3.size
      go_upto_region 7 with (fail)
      go_region_held3 (fun w' => Below W.heap.size W w') (first | (with_reducible assumption) | exact hbel3.drew)
        (first
          | (go_at_call 40; refine (cI2.out _ _ _ _ _ hgr5.out).mono ?_; rintro e X ⟨gm, m, rfl, hJ, hM6, hb6⟩; have hk6 : Below W.heap.size W X := hk5.trans (hb6.mono hk5.size); have hN6 := hide (hN5.out.below hb6); have hM6' := hide hM6; have hJ' := hide hJ; clear hM6 hJ hb6)
          | (go_at_call 43; refine (cW.out _ hk4).mono ?_; rintro e w5 ⟨Ag, Cg, Dg, Eg, rfl, hgr, hb5⟩; rw [← hn.out] at hgr ⊢; have hk5 : Below W.heap.size W w5 := hk4.trans (hb5.mono hk4.size); have hN5 := hide (hN4.out.below hb5); have hgr5 := hide hgr; clear hgr hb5)
          | (go_at_call 40; refine (cI.out _ (hbel3.drew)).mono ?_; rintro e w4 ⟨gl, l, rfl, hI, hN, hb4⟩; have hk4 : Below W.heap.size W w4 := (hbel3.drew).trans (hb4.mono hs3); have hN4 := hide hN; have hI' := hide hI; clear hN hI hb4))
      have hLr := hN6.out.reads
      have hll : l.length = n := hN6.out.len
      have hMr := hM6'.out.reads
      have hml : m.length = n := hM6'.out.len
      have hkX := hk6.size
      have hwX : Hid (Below w.heap.size w X) := hide (hwW.out.trans (hk6.mono hws))
      have hwXs : Hid (w.heap.size ≤ X.heap.size) := hide hwX.out.size
      have hidm : Hid (∀ (x : Nat) u, x < n → l[x]? = some u → m[(mv A B x).toNat]? = some (mv A B u)) := hide (fun x u hx hu => idom_mv hAn.out hBn.out hmv2.out hI'.out hok.out hJ'.out hok2.out hx hu)
      have hselfX := Below.refl X.heap.size X
      replace hLr := hide hLr
      replace hMr := hide hMr
      clear q0 q1 q2 q3 hself hbel3 hs3 hk4 hk5 hk6 hkX hN4 hN5 hN6 hM6' hgr5 cI cI2 cW hF hW
      go_wp2
      go_loopw [58] (fun i wr => ∃ x : Nat, i = .int .i64 x ∧ x ≤ n ∧ Below X.heap.size X wr) (fun i _ => n - (intOf i).toNat)
      case atStart => exact ⟨0, rfl, Nat.zero_le _, hselfX⟩
      case round =>
        clear hselfX
        obtain ⟨x, rfl, hx, hbel⟩ := hrel
        by_cases hlt : x < n
        · have hxi : (x : Int) < (n : Int) := by omega
          have hmvb := (mv_in (a := (A : Int)) (b := (B : Int)) (x := (x : Int)) (n := n) (by have := hAn.out; omega) (by have := hBn.out; omega)).2 ⟨by omega, by omega⟩
          obtain ⟨mx, hmx⟩ := Int.eq_ofNat_of_zero_le hmvb.1
          have hmxn : mx < n := by omega
          obtain ⟨u, hu⟩ := get_ex (l := l) (k := x) (by omega)
          have hmu : m[mx]? = some (mv A B u) := by
            have h9 := hidm.out x u hlt hu.out
            rwa [hmx, Int.toNat_natCast] at h9
          have r8 := hLr.out x u hu.out
          have r9 := hMr.out mx _ hmu
          have hmx2 : Hid (mv A B (x : Int) = (mx : Int)) := hide hmx
          have hk0 : Below X.heap.size X wr.drew := hbel.drew
          have hneq : (mv A B u != mv A B u) = false := by simp
          clear hmvb hmx hmu
          go_upto_region 13 with (fail)
          go_region_held3 (fun w' => Below X.heap.size X w') (first | (with_reducible assumption))
            (first
              | (go_at_call 44; refine (moved_any _ A B _).mono ?_; rintro e w9 ⟨rfl, rfl⟩; (try rw [hmx2.out])))
          go_wp2
          go_roundw
          case rel => exact ⟨x + 1, by go_num, hlt, hk0⟩
          case measure => simp [intOf]; omega
        · obtain rfl : x = n := by omega
          go_wp2
          go_ret
          exact ⟨rfl, hwX.out.trans (hbel.mono hwXs.out)⟩
end Go.Proofs.Ytaljdbmmjgmbbaa
