/- latheref13.Outer. No condition but sizes. | latheref13.Ahead. No condition but sizes. | loops.outer and loops.Ahead. No condition but sizes. | loops.Ahead. No condition but sizes. -/
import Derived.Test.YtidjaohlaljmpaaLoD
import Derived.Test.YtidjaohlaljmpaaGrY
import Derived.Test.YtidjaohlaljmpaaLoB
import Derived.Test.YtidjaohlaljmpaaGrE
namespace Go.Proofs.Ytidjaohlaljmpaa
open Go.RowKit
set_option linter.unusedSimpArgs false
set_option linter.unusedVariables false

/-- a block's predecessors that it does not dominate -/
noncomputable def outF (sc : Int → List Int) (o : List Int) (P : List (List Int)) (h : Nat) : List Int := ((P[h]?).getD []).filter fun x => !domB sc o h x
noncomputable def outP (sc : Int → List Int) (o p : List Int) (h i : Nat) : List Int := (p.take i).filter fun x => !domB sc o h x
theorem outP_step {sc : Int → List Int} {o p : List Int} {h i : Nat} {x : Int} (hx : p[i]? = some x) : outP sc o p h (i + 1) = outP sc o p h i ++ (if domB sc o h x = true then [] else [x]) := by
  unfold outP
  rw [List.take_add_one, hx, List.filter_append]
  by_cases e : domB sc o h x = true
  · simp [e]
  · simp [e]
theorem outP_len {sc : Int → List Int} {o p : List Int} {h i : Nat} : (outP sc o p h i).length ≤ p.length := by
  unfold outP
  exact Nat.le_trans (List.length_filter_le ..) (by rw [List.length_take]; omega)
theorem outP_end {sc : Int → List Int} {o p : List Int} {P : List (List Int)} {h : Nat} (hp : P[h]? = some p) : outP sc o p h p.length = outF sc o P h := by
  unfold outP outF
  rw [hp, List.take_length]
  rfl
set_option maxRecDepth 100000 in
set_option maxHeartbeats 12800000 in
theorem router_any (f : Fun) (a : Nat) (hlta : a < f.blocks.length) (c1 c2 : Value) (w : World) (B : Nat) (hB : B ≤ w.heap.size) (hf : RFun.rep w B [.string f.name, c1, .int .i64 f.ret, c2] f) (hs : Small f) :
    Calls Try.prog 46 #[f.v c1 c2, .int .i64 a] w (SuccPost (outF (succsF f.blocks) (orderF f.blocks) (predsL (succsF f.blocks) f.blocks.length) a) w) := by
  obtain ⟨hp, hb⟩ := fun_open (RFun.later hf (Below.refl _ _) hB)
  obtain ⟨A1, k1, h1, -, -⟩ := Rp.slice1_open hp
  obtain ⟨A2, k2, h2, hm2, -⟩ := Rp.slice1_open hb
  cases h1; cases h2
  clear hp hb
  obtain ⟨n, hn⟩ : ∃ n, Hid (n = f.blocks.length) := ⟨_, hide rfl⟩
  have hnle : n ≤ 2000000 := by rw [hn.out]; exact hs.blocks
  obtain ⟨O, hO⟩ : ∃ O, Hid (O = orderF f.blocks) := ⟨_, hide rfl⟩
  obtain ⟨sc, hsc⟩ : ∃ sc, Hid (sc = succsF f.blocks) := ⟨_, hide rfl⟩
  obtain ⟨R, hR⟩ : ∃ R, Hid (R = reachF f.blocks) := ⟨_, hide rfl⟩
  obtain ⟨P, hP⟩ : ∃ P, Hid (P = predsL sc n) := ⟨_, hide rfl⟩
  have hPl : P.length = n := by rw [hP.out, predsL_len]
  have hRl : R.length = n := by rw [hR.out, hn.out, reach_len]
  have hsok : Hid (∀ b, SuccOk n (sc b)) := hide (fun b => by rw [hsc.out, hn.out]; exact succsF_ok _ _)
  have hok : Hid (OrderOk n sc O) := hide (by rw [hO.out, hn.out, hsc.out]; exact order_ok _)
  have hol : O.length ≤ n := by rw [hO.out, hn.out]; exact order_len _
  have hRat : Hid (∀ k : Nat, k < n → R[k]? = some (decide ((k : Int) ∈ O))) := hide (fun k hk => by rw [hR.out, hO.out]; exact reach_at _ _ (by rw [← hn.out]; exact hk))
  rw [← hsc.out, ← hO.out]
  rw [← hn.out] at hf hm2 hlta ⊢
  rw [← hP.out]
  obtain ⟨W, hW, hwW, hWs, hx⟩ := boxes1 w #[.string f.name, .slice A1 f.params.length k1, .int .i64 f.ret, .slice A2 n k2] 25
  have q0 : ∀ w', Below W.heap.size W w' → w'.cell? ⟨w.heap.size, 0, none⟩ = some (.string f.name) := hx 0 _ rfl
  have q1 : ∀ w', Below W.heap.size W w' → w'.cell? ⟨w.heap.size, 1, none⟩ = some (.slice A1 f.params.length k1) := hx 1 _ rfl
  have q2 : ∀ w', Below W.heap.size W w' → w'.cell? ⟨w.heap.size, 2, none⟩ = some (.int .i64 f.ret) := hx 2 _ rfl
  have q3 : ∀ w', Below W.heap.size W w' → w'.cell? ⟨w.heap.size, 3, none⟩ = some (.slice A2 n k2) := hx 3 _ rfl
  clear hx
  have hws : w.heap.size ≤ W.heap.size := by omega
  replace hWs := hide hWs
  have hself := Below.refl W.heap.size W
  have hF : Hid (∀ w', Below W.heap.size W w' → RFun.rep w' w'.heap.size [.string f.name, .slice A1 f.params.length k1, .int .i64 f.ret, .slice A2 n k2] f) := hide (fun w' h => RFun.later hf ((hwW.trans (h.mono hws)).mono hB) (Nat.le_trans hB (hwW.trans (h.mono hws)).size))
  have cP : Hid (∀ w', Below W.heap.size W w' → Calls Try.prog 59 #[f.v (.slice A1 f.params.length k1) (.slice A2 n k2)] w' (PredPost n P w')) := hide (fun w' h => by
    have := rpreds_any f (.slice A1 f.params.length k1) (.slice A2 n k2) w' w'.heap.size (Nat.le_refl _) (hF.out w' h) hs
    rwa [← hn.out, ← hsc.out, ← hP.out] at this)
  have cLt : Hid (∀ w', Below W.heap.size W w' → Calls Try.prog 41 #[f.v (.slice A1 f.params.length k1) (.slice A2 n k2), .int .i64 a] w' (SuccPost (latI sc O P n a) w')) := hide (fun w' h => by
    have := rlatches_any f a (.slice A1 f.params.length k1) (.slice A2 n k2) w' w'.heap.size (Nat.le_refl _) (hF.out w' h) hs
    rwa [← hn.out, ← hO.out, ← hsc.out, ← hP.out] at this)
  replace hs := hide hs
  replace hf := hide hf
  replace hwW := hide hwW
  obtain ⟨i0, hi0, hz0, hz1, hz2⟩ := cinfo_parts cinfo_int
  replace hi0 := hide hi0
  replace hz0 := hide hz0
  replace hz1 := hide hz1
  replace hz2 := hide hz2
  have hai : (a : Int) < (n : Int) := by omega
  have hlat : Hid (latI sc O P n (a : Int) = latF sc O P a) := hide (by unfold latI; rw [if_pos (by omega)]; rfl)
  rw [hlat.out] at cLt
  replace hW := hide hW
  go_enter Try.func46, Try.ntmps46
  go_upto_region 1 with (fail)
  rw [hW.out]
  clear hW
  go_wp2_with (fail)
  refine (cP.out _ hself).mono ?_
  rintro e X1 ⟨gp, csp, rfl, hL, hb2⟩
  have hsX1 := hb2.size
  go_wp2_with (fail)
  refine (cLt.out _ hb2).mono ?_
  rintro e X ⟨vL, rfl, hLt, hb3⟩
  obtain ⟨AL, CL, rfl⟩ := row_form hLt.row
  have hbX := hb2.trans (hb3.mono hsX1)
  have hwX : Hid (∀ w', Below X.heap.size X w' → Below w.heap.size w w') := hide (fun w' h => hwW.out.trans ((hbX.trans (h.mono hbX.size)).mono hws))
  have hwXs : Hid (w.heap.size ≤ X.heap.size) := hide (Nat.le_trans hws hbX.size)
  have hpr := hide (rows_reads (hL.below hb3) hPl)
  have hPm : Hid (∀ (k : Nat) p, P[k]? = some p → p.length ≤ 2000000 ∧ ∀ x, x ∈ p ↔ (0 ≤ x ∧ x < n ∧ (k : Int) ∈ sc x)) := hide (fun k p hk => by
    rw [hP.out] at hk
    have hm := fun x => predsL_mem hk x
    refine ⟨?_, hm⟩
    have := range_len n p ((predsL_sorted hk).imp fun h => by omega) (fun x hx => ⟨((hm x).1 hx).1, ((hm x).1 hx).2.1⟩)
    omega)
  obtain ⟨p, hp⟩ := get_ex (l := P) (k := a) (by omega)
  obtain ⟨Ap, Cp, rp, rpx⟩ := hpr.out a p hp.out
  obtain ⟨hpl, hpm⟩ := hPm.out a p hp.out
  have hPe := hide (outP_end (sc := sc) (o := O) hp.out)
  have hLe := latP_end (sc := sc) (o := O) hp.out
  have hLm : Hid (∀ x, x ∈ p → decide (x ∈ latF sc O P a) = domB sc O a x) := hide (fun x hx => by
    rw [← hLe, Bool.eq_iff_iff, decide_eq_true_iff]
    unfold latP
    rw [List.take_length, List.mem_filter]
    exact ⟨fun h => h.2, fun h => ⟨hx, h⟩⟩)
  obtain ⟨LT, hLTe⟩ : ∃ LT, Hid (LT = latF sc O P a) := ⟨_, hide rfl⟩
  rw [← hLTe.out] at hLt hLm ⊢
  have hLTl : LT.length ≤ 4000000 := by rw [hLTe.out, ← hLe]; have := latP_len (sc := sc) (o := O) (p := p) (h := a) (i := p.length); omega
  have cH : Hid (∀ (t : Int) w', Below X.heap.size X w' → Calls Try.prog 23 #[.slice AL LT.length CL, .int .i64 t] w' fun e w'' => e = .returned (.bool (decide (t ∈ LT))) ∧ w'' = w') := hide (fun t w' h => has13_any AL CL LT t w' X1.heap.size hLTl (hLt.below h))
  replace hLe := hide hLe
  replace hLt := hide hLt
  replace hpm := hide hpm
  replace rpx := hide rpx
  obtain ⟨m, hm⟩ : ∃ m, Hid (m = p.length) := ⟨_, hide rfl⟩
  rw [← hm.out] at rp hpl hPe
  obtain ⟨mL, hmL⟩ : ∃ mL, Hid (mL = LT.length) := ⟨_, hide rfl⟩
  rw [← hmL.out] at cH hLTl ⊢
  replace rp := hide rp
  have hst : Hid (OwnI X X.heap.size (.slice none 0 0) (outP sc O p a 0)) := hide (by simp only [outP, List.take_zero, List.filter_nil]; exact OwnI.nil_)
  have hselfX := Below.refl X.heap.size X
  clear hL hb2 hb3 hbX hsX1 cP cLt q0 q1 q2 q3 hself
  go_wp2
  go_loopw [7, 8] (fun s5 j wr => ∃ (i : Nat) (A : Option Addr) (C : Nat) (q : List Int), j = .int .i64 i ∧ s5 = .slice A q.length C ∧ i ≤ m ∧ Hid (q = outP sc O p a i) ∧ Hid (OwnI wr X.heap.size (.slice A q.length C) q) ∧ Below X.heap.size X wr) (fun _ j _ => m - (intOf j).toNat)
  case atStart => exact ⟨0, none, 0, [], rfl, rfl, Nat.zero_le _, hide (by simp [outP]), hide (by simpa [outP] using hst.out), hselfX⟩
  case round =>
    clear hst hselfX
    rename World => V
    obtain ⟨i, Ar, kr, r, rfl, rfl, hi, hre, hrow, hbel⟩ := hrel
    have rp0 := rp.out V (hbel)
    by_cases hlti : i < m
    · have hii : (i : Int) < (m : Int) := by omega
      obtain ⟨x0, hx0'⟩ := get_ex (l := p) (k := i) (by rw [← hm.out]; exact hlti)
      obtain ⟨g5, rfl, rx⟩ := rpx.out (by rw [← hm.out]; omega)
      have rx0 := rx i _ hx0'.out V hbel
      clear rx
      have hx0m := List.mem_of_getElem? hx0'.out
      obtain ⟨hm1', hm2'', -⟩ := (hpm.out x0).1 hx0m
      have cH0 := hide (cH.out x0 V hbel)
      rw [hLm.out x0 hx0m] at cH0
      have hstep := outP_step (sc := sc) (o := O) (h := a) hx0'.out
      rw [← hre.out] at hstep
      replace hx0m := hide hx0m
      obtain ⟨d, hd⟩ : ∃ d, Hid (domB sc O a x0 = d) := ⟨_, hide rfl⟩
      rw [hd.out] at hstep cH0
      have hbs := hbel.size
      cases d with
      | false =>
        have hrl : r.length ≤ 2000000 := by have := outP_len (sc := sc) (o := O) (p := p) (h := a) (i := i); rw [hre.out]; have := hm.out; omega
        have hbI : Hid (I64 x0) := hide (i64_mk (by omega) (by omega))
        have hnx : Hid (r ++ [x0] = outP sc O p a (i + 1)) := hide (by rw [hstep]; simp)
        replace hstep := hide hstep
        go_wp2_with (first
          | (go_at_call 23; refine cH0.out.mono ?_; rintro e V2 ⟨rfl, hV2⟩; replace hV2 := hV2.symm; subst hV2)
          | (at_builtin
             refine wpList_append_own _ rfl (.tmp 35) (.tmp 43) _ rfl X.heap.size 3 i0 _ 1 8 Try.underlying22 hi0.out hz0.out hz1.out hz2.out rfl (by omega) (.slice Ar r.length kr) _ _ rfl (hrow.out.row.alloc _) ⟨V.heap.size, 0, none⟩ 1 1 [.int .i64 x0] rfl rfl ?c1 ?c2 ?c3 ?c4 ?c5 ?_
             case c1 => exact World.news_of_block (cs := #[.int .i64 x0]) (t := 3) (fr := (0, 0)) (heap_alloc_new V _)
             case c2 => simp [Value.oneCell']
             case c3 => unfold maxLen; omega
             case c4 => omega
             case c5 => first | (simp; omega) | simp | omega
             intro v1 w1 hown1 hg1 _
             have hbw1 : Below X.heap.size X w1 := (hbel.alloc hbs _).grown hg1 (by simp; omega) (fun k hk => (row_lt hrow.out.row hk).1)
             obtain ⟨A8, C8, hv8⟩ := row_form (OwnI.snoc hrow.out.ok hbI.out hown1).row
             have hL := hide (OwnI.snoc hrow.out.ok hbI.out hown1)
             subst hv8
             replace hown1 := hide hown1
             replace hg1 := hide hg1))
        go_roundw
        case rel => exact ⟨i + 1, A8, C8, r ++ [x0], by go_num, by simp, hlti, hnx, hL, hbw1⟩
        case measure => simp [intOf]; omega
      | true =>
        have hnx : Hid (r = outP sc O p a (i + 1)) := hide (by rw [hstep]; simp)
        replace hstep := hide hstep
        go_wp2_with (go_at_call 23; refine cH0.out.mono ?_; rintro e V2 ⟨rfl, hV2⟩; replace hV2 := hV2.symm; subst hV2)
        go_roundw
        case rel => exact ⟨i + 1, Ar, kr, r, by go_num, rfl, hlti, hnx, hrow, hbel⟩
        case measure => simp [intOf]; omega
    · obtain rfl : i = m := by omega
      have hfin : Hid (OwnI V w.heap.size (.slice Ar r.length kr) (outF sc O P a)) := hide (by rw [← hPe.out, ← hre.out]; exact hrow.out.mono hwXs.out)
      have hw := hide (hwX.out V hbel)
      go_wp2
      go_ret
      exact ⟨_, rfl, hfin.out, hw.out⟩
end Go.Proofs.Ytidjaohlaljmpaa

namespace Go.Proofs.Ytidjaohlaljmpaa
open Go.RowKit
set_option linter.unusedSimpArgs false
set_option linter.unusedVariables false

noncomputable def ahead1 (sc : Int → List Int) (o : List Int) : List Int → Int
  | [x] => if decide (x ∈ o) = true ∧ (sc x).length = 1 then x else -1
  | _ => -1
noncomputable def aheadR (sc : Int → List Int) (o : List Int) (P : List (List Int)) (n : Nat) (h : Int) : Int := if latI sc o P n h = [] then -1 else ahead1 sc o (outF sc o P h.toNat)
theorem ahead1_no {sc : Int → List Int} {o l : List Int} (h : l.length ≠ 1) : ahead1 sc o l = -1 := by
  match l, h with
  | [], _ => rfl
  | [x], h => exact absurd rfl h
  | x :: y :: t, _ => rfl
def RetI (r : Int) (w : World) (e : Ending) (w' : World) : Prop := e = .returned (.int .i64 r) ∧ Below w.heap.size w w'
set_option maxRecDepth 100000 in
set_option maxHeartbeats 12800000 in
theorem rahead_any (f : Fun) (h : Int) (c1 c2 : Value) (w : World) (B : Nat) (hB : B ≤ w.heap.size) (hf : RFun.rep w B [.string f.name, c1, .int .i64 f.ret, c2] f) (hs : Small f) :
    Calls Try.prog 20 #[f.v c1 c2, .int .i64 h] w (RetI (aheadR (succsF f.blocks) (orderF f.blocks) (predsL (succsF f.blocks) f.blocks.length) f.blocks.length h) w) := by
  obtain ⟨hp, hb⟩ := fun_open (RFun.later hf (Below.refl _ _) hB)
  obtain ⟨A1, k1, h1, -, -⟩ := Rp.slice1_open hp
  obtain ⟨A2, k2, h2, hm2, -⟩ := Rp.slice1_open hb
  cases h1; cases h2
  clear hp hb
  obtain ⟨n, hn⟩ : ∃ n, Hid (n = f.blocks.length) := ⟨_, hide rfl⟩
  have hnle : n ≤ 2000000 := by rw [hn.out]; exact hs.blocks
  obtain ⟨O, hO⟩ : ∃ O, Hid (O = orderF f.blocks) := ⟨_, hide rfl⟩
  obtain ⟨sc, hsc⟩ : ∃ sc, Hid (sc = succsF f.blocks) := ⟨_, hide rfl⟩
  obtain ⟨R, hR⟩ : ∃ R, Hid (R = reachF f.blocks) := ⟨_, hide rfl⟩
  obtain ⟨P, hP⟩ : ∃ P, Hid (P = predsL sc n) := ⟨_, hide rfl⟩
  have hPl : P.length = n := by rw [hP.out, predsL_len]
  have hRl : R.length = n := by rw [hR.out, hn.out, reach_len]
  have hsok : Hid (∀ b, SuccOk n (sc b)) := hide (fun b => by rw [hsc.out, hn.out]; exact succsF_ok _ _)
  have hok : Hid (OrderOk n sc O) := hide (by rw [hO.out, hn.out, hsc.out]; exact order_ok _)
  have hol : O.length ≤ n := by rw [hO.out, hn.out]; exact order_len _
  have hRat : Hid (∀ k : Nat, k < n → R[k]? = some (decide ((k : Int) ∈ O))) := hide (fun k hk => by rw [hR.out, hO.out]; exact reach_at _ _ (by rw [← hn.out]; exact hk))
  rw [← hn.out, ← hsc.out, ← hO.out]
  rw [← hn.out] at hf hm2
  obtain ⟨W, hW, hwW, hWs, hx⟩ := boxes1 w #[.string f.name, .slice A1 f.params.length k1, .int .i64 f.ret, .slice A2 n k2] 25
  have q0 : ∀ w', Below W.heap.size W w' → w'.cell? ⟨w.heap.size, 0, none⟩ = some (.string f.name) := hx 0 _ rfl
  have q1 : ∀ w', Below W.heap.size W w' → w'.cell? ⟨w.heap.size, 1, none⟩ = some (.slice A1 f.params.length k1) := hx 1 _ rfl
  have q2 : ∀ w', Below W.heap.size W w' → w'.cell? ⟨w.heap.size, 2, none⟩ = some (.int .i64 f.ret) := hx 2 _ rfl
  have q3 : ∀ w', Below W.heap.size W w' → w'.cell? ⟨w.heap.size, 3, none⟩ = some (.slice A2 n k2) := hx 3 _ rfl
  clear hx
  have hws : w.heap.size ≤ W.heap.size := by omega
  replace hWs := hide hWs
  have hself := Below.refl W.heap.size W
  have hF : Hid (∀ w', Below W.heap.size W w' → RFun.rep w' w'.heap.size [.string f.name, .slice A1 f.params.length k1, .int .i64 f.ret, .slice A2 n k2] f) := hide (fun w' h => RFun.later hf ((hwW.trans (h.mono hws)).mono hB) (Nat.le_trans hB (hwW.trans (h.mono hws)).size))
  have cRR : Hid (∀ w', Below W.heap.size W w' → Calls Try.prog 47 #[f.v (.slice A1 f.params.length k1) (.slice A2 n k2)] w' (ReachPost n R w')) := hide (fun w' h => by
    have := rreach_any f (.slice A1 f.params.length k1) (.slice A2 n k2) w' w'.heap.size (Nat.le_refl _) (hF.out w' h) hs
    rwa [← hn.out, ← hR.out] at this)
  have cLt : Hid (∀ w', Below W.heap.size W w' → Calls Try.prog 41 #[f.v (.slice A1 f.params.length k1) (.slice A2 n k2), .int .i64 h] w' (SuccPost (latI sc O P n h) w')) := hide (fun w' hb => by
    have := rlatches_any f h (.slice A1 f.params.length k1) (.slice A2 n k2) w' w'.heap.size (Nat.le_refl _) (hF.out w' hb) hs
    rwa [← hn.out, ← hO.out, ← hsc.out, ← hP.out] at this)
  have cOu : Hid (∀ (a : Nat), a < n → ∀ w', Below W.heap.size W w' → Calls Try.prog 46 #[f.v (.slice A1 f.params.length k1) (.slice A2 n k2), .int .i64 a] w' (SuccPost (outF sc O P a) w')) := hide (fun a ha w' hb => by
    have := router_any f a (by rw [← hn.out]; exact ha) (.slice A1 f.params.length k1) (.slice A2 n k2) w' w'.heap.size (Nat.le_refl _) (hF.out w' hb) hs
    rwa [← hn.out, ← hO.out, ← hsc.out, ← hP.out] at this)
  have cSu : Hid (∀ (b : Int) w', Below W.heap.size W w' → Calls Try.prog 48 #[f.v (.slice A1 f.params.length k1) (.slice A2 n k2), .int .i64 b] w' (SuccPost (sc b) w')) := hide (fun b w' hb => by
    have := rsuccs_any f b (.slice A1 f.params.length k1) (.slice A2 n k2) w' w'.heap.size (Nat.le_refl _) (hF.out w' hb) hs
    rwa [← hsc.out] at this)
  rw [← hP.out]
  replace hs := hide hs
  replace hf := hide hf
  replace hwW := hide hwW
  obtain ⟨ans, hans⟩ : ∃ ans, Hid (ans = aheadR sc O P n h) := ⟨_, hide rfl⟩
  rw [← hans.out]
  have hla : Hid (latI sc O P n h ≠ [] → 0 ≤ h ∧ h < n) := hide (fun e => Classical.byContradiction fun g => e (by unfold latI; rw [if_neg g]))
  have hll0 : Hid (latI sc O P n h = [] → ans = -1) := hide (fun e => by rw [hans.out]; unfold aheadR; rw [if_pos e])
  have hll1 : Hid (latI sc O P n h ≠ [] → ans = ahead1 sc O (outF sc O P h.toNat)) := hide (fun e => by rw [hans.out]; unfold aheadR; rw [if_neg e])
  obtain ⟨LT, hLT⟩ : ∃ LT, Hid (LT = latI sc O P n h) := ⟨_, hide rfl⟩
  rw [← hLT.out] at cLt hla hll0 hll1
  replace hW := hide hW
  go_enter Try.func20, Try.ntmps20
  go_upto_region 1 with (fail)
  rw [hW.out]
  clear hW
  go_wp2_with (fail)
  refine (cLt.out _ hself).mono ?_
  rintro e X1 ⟨vL, rfl, hL, hb1⟩
  obtain ⟨AL, CL, rfl⟩ := row_form hL.row
  clear hL
  cases LT with
  | nil =>
    have hr := hide (hll0.out rfl)
    have hw := hide (hwW.out.trans (hb1.mono hws))
    go_wp2
    go_ret
    exact ⟨by rw [hr.out]; rfl, hw.out⟩
  | cons q LT =>
    obtain ⟨h1, h2⟩ := hla.out (by simp)
    obtain ⟨a, rfl⟩ := Int.eq_ofNat_of_zero_le h1
    have hlta : a < n := by omega
    have hr1 := hll1.out (by simp)
    rw [Int.toNat_natCast] at hr1
    have hne : ((((q :: LT).length : Nat) : Int) == 0) = false := by simp; omega
    obtain ⟨mq, hmq⟩ : ∃ mq, (q :: LT).length = mq := ⟨_, rfl⟩
    rw [hmq] at hne ⊢
    clear hmq hll0 hll1 hla
    replace hr1 := hide hr1
    go_wp2_with (fail)
    refine (cOu.out a hlta _ hb1).mono ?_
    rintro e X2 ⟨vO, rfl, hOu, hb2⟩
    have hk2 := hb1.trans (hb2.mono hb1.size)
    obtain ⟨AO, CO, hAO, hOx⟩ := int_reads hOu
    subst hAO
    obtain ⟨L, hLe⟩ : ∃ L, Hid (L = outF sc O P a) := ⟨_, hide rfl⟩
    rw [← hLe.out] at hr1 hOu hOx ⊢
    have hLb : Hid (∀ x, x ∈ L → 0 ≤ x ∧ x < n) := hide (fun x hx => by
      rw [hLe.out] at hx
      unfold outF at hx
      have hx2 := (List.mem_filter.1 hx).1
      obtain ⟨p, hp⟩ := get_ex (l := P) (k := a) (by omega)
      rw [hp.out] at hx2
      have hp2 := hp.out
      rw [hP.out] at hp2
      have := (predsL_mem hp2 x).1 hx2
      exact ⟨this.1, this.2.1⟩)
    replace hOu := hide hOu
    replace hOx := hide hOx
    by_cases hl1 : L.length = 1
    · obtain ⟨x, rfl⟩ := List.length_eq_one_iff.1 hl1
      obtain ⟨hx0, hx1⟩ := hLb.out x (by simp)
      obtain ⟨y, rfl⟩ := Int.eq_ofNat_of_zero_le hx0
      have hyn : y < n := by omega
      obtain ⟨g, rfl, rx⟩ := hOx.out (by simp)
      have rx0 := rx 0 _ rfl
      replace hl1 := hide hl1
      have hlen1 : ((([(y : Int)] : List Int).length : Nat) : Int) = 1 := rfl
      clear rx
      go_wp2_with (fail)
      refine (cRR.out _ hk2).mono ?_
      rintro e X3 ⟨gr, rfl, hR3, hb3⟩
      have hk3 := hk2.trans (hb3.mono hk2.size)
      have hk23 := hb3
      have rre := (bool_reads hR3).2 y _ (hRat.out y hyn)
      replace hR3 := hide hR3
      have z0 : ∀ w', Below X3.heap.size X3 w' → w'.cell? ⟨w.heap.size, 0, none⟩ = some (.string f.name) := fun w' h => q0 w' (hk3.trans (h.mono hk3.size))
      have z1 : ∀ w', Below X3.heap.size X3 w' → w'.cell? ⟨w.heap.size, 1, none⟩ = some (.slice A1 f.params.length k1) := fun w' h => q1 w' (hk3.trans (h.mono hk3.size))
      have z2 : ∀ w', Below X3.heap.size X3 w' → w'.cell? ⟨w.heap.size, 2, none⟩ = some (.int .i64 f.ret) := fun w' h => q2 w' (hk3.trans (h.mono hk3.size))
      have z3 : ∀ w', Below X3.heap.size X3 w' → w'.cell? ⟨w.heap.size, 3, none⟩ = some (.slice A2 n k2) := fun w' h => q3 w' (hk3.trans (h.mono hk3.size))
      have rx3 : ∀ w', Below X3.heap.size X3 w' → w'.cell? ⟨g, 0, none⟩ = some (.int .i64 (y : Int)) := fun w' h => rx0 w' (hk23.trans (h.mono hk23.size))
      have hself3 := Below.refl X3.heap.size X3
      have hcS := hide (cSu.out (y : Int) X3.drew (hk3.trans (hself3.drew.mono hk3.size)))
      have hk3' := hide hk3
      clear q0 q1 q2 q3 rx0 hself hb1 hk2 hb2 hb3 hk23 hk3
      go_upto_region 8 with (fail)
      go_region_held3 (fun w' => Below X3.heap.size X3 w') (first | (with_reducible assumption) | exact hself3.drew)
        (first
          | (go_at_call 48; refine hcS.out.mono ?_; rintro e X4 ⟨vS, rfl, hS, hb4⟩; have hk4 : Below X3.heap.size X3 X4 := hself3.drew.trans (hb4.mono (Nat.le_refl _)); obtain ⟨AS, CS, hvS⟩ := row_form hS.row; subst hvS; clear hS hb4))
      have rre0 := rre X4 hk4
      have rx4 := rx3 X4 hk4
      clear rre rx3
      have hw := hide (hwW.out.trans ((hk3'.out.trans (hk4.mono hk3'.out.size)).mono hws))
      obtain ⟨ms, hms⟩ : ∃ ms, Hid ((sc (y : Int)).length = ms) := ⟨_, hide rfl⟩
      rw [hms.out]
      have hr : Hid (ans = if decide ((y : Int) ∈ O) = true ∧ ms = 1 then (y : Int) else -1) := hide (by rw [hr1.out, ← hms.out]; rfl)
      cases hd : decide ((y : Int) ∈ O) with
      | false =>
        rw [hd] at rre0
        have hr2 : Hid (ans = -1) := hide (by rw [hr.out, hd]; simp)
        replace hd := hide hd
        go_wp2
        go_ret
        exact ⟨by rw [hr2.out]; rfl, hw.out⟩
      | true =>
        rw [hd] at rre0
        by_cases h9 : ms = 1
        · have hr2 : Hid (ans = y) := hide (by rw [hr.out, hd, h9]; simp)
          have hne9 : ((ms : Int) != 1) = false := by simp [h9]
          replace hd := hide hd
          replace h9 := hide h9
          go_wp2
          go_ret
          exact ⟨by rw [hr2.out]; rfl, hw.out⟩
        · have hr2 : Hid (ans = -1) := hide (by rw [hr.out, if_neg (fun h => h9 h.2)])
          have hne9 : ((ms : Int) != 1) = true := by simp; omega
          replace hd := hide hd
          replace h9 := hide h9
          go_wp2
          go_ret
          exact ⟨by rw [hr2.out]; rfl, hw.out⟩
    · have hr : Hid (ans = -1) := hide (by rw [hr1.out]; exact ahead1_no hl1)
      have hne1 : ((L.length : Int) != 1) = true := by simp; omega
      have hw := hide (hwW.out.trans (hk2.mono hws))
      replace hl1 := hide hl1
      go_wp2
      go_ret
      exact ⟨by rw [hr.out]; rfl, hw.out⟩
end Go.Proofs.Ytidjaohlaljmpaa

namespace Go.Proofs.Ytidjaohlaljmpaa
open Go.RowKit
set_option linter.unusedSimpArgs false
set_option linter.unusedVariables false

noncomputable def outI (sc : Int → List Int) (o : List Int) (P : List (List Int)) (n : Nat) (h : Int) : List Int := if 0 ≤ h ∧ h < n then outF sc o P h.toNat else []
def OutPost (L : List Int) (b : Bool) (w : World) (e : Ending) (w' : World) : Prop := ∃ v, e = .returned (.tuple #[v, .bool b]) ∧ OwnI w' w.heap.size v L ∧ Below w.heap.size w w'
set_option maxRecDepth 100000 in
set_option maxHeartbeats 12800000 in
theorem louter_any (f : Fun) (h : Int) (c1 c2 : Value) (w : World) (B : Nat) (hB : B ≤ w.heap.size) (hf : RFun.rep w B [.string f.name, c1, .int .i64 f.ret, c2] f) (hs : Small f) :
    Calls Try.prog 45 #[f.v c1 c2, .int .i64 h] w (OutPost (outI (succsF f.blocks) (orderF f.blocks) (predsL (succsF f.blocks) f.blocks.length) f.blocks.length h) (decide (latI (succsF f.blocks) (orderF f.blocks) (predsL (succsF f.blocks) f.blocks.length) f.blocks.length h ≠ [])) w) := by
  obtain ⟨hp, hb⟩ := fun_open (RFun.later hf (Below.refl _ _) hB)
  obtain ⟨A1, k1, h1, -, -⟩ := Rp.slice1_open hp
  obtain ⟨A2, k2, h2, hm2, -⟩ := Rp.slice1_open hb
  cases h1; cases h2
  clear hp hb
  obtain ⟨n, hn⟩ : ∃ n, Hid (n = f.blocks.length) := ⟨_, hide rfl⟩
  have hnle : n ≤ 2000000 := by rw [hn.out]; exact hs.blocks
  obtain ⟨O, hO⟩ : ∃ O, Hid (O = orderF f.blocks) := ⟨_, hide rfl⟩
  obtain ⟨sc, hsc⟩ : ∃ sc, Hid (sc = succsF f.blocks) := ⟨_, hide rfl⟩
  obtain ⟨R, hR⟩ : ∃ R, Hid (R = reachF f.blocks) := ⟨_, hide rfl⟩
  obtain ⟨P, hP⟩ : ∃ P, Hid (P = predsL sc n) := ⟨_, hide rfl⟩
  have hPl : P.length = n := by rw [hP.out, predsL_len]
  have hRl : R.length = n := by rw [hR.out, hn.out, reach_len]
  have hsok : Hid (∀ b, SuccOk n (sc b)) := hide (fun b => by rw [hsc.out, hn.out]; exact succsF_ok _ _)
  have hok : Hid (OrderOk n sc O) := hide (by rw [hO.out, hn.out, hsc.out]; exact order_ok _)
  have hol : O.length ≤ n := by rw [hO.out, hn.out]; exact order_len _
  have hRat : Hid (∀ k : Nat, k < n → R[k]? = some (decide ((k : Int) ∈ O))) := hide (fun k hk => by rw [hR.out, hO.out]; exact reach_at _ _ (by rw [← hn.out]; exact hk))
  rw [← hn.out, ← hO.out, ← hsc.out]
  rw [← hn.out] at hf hm2
  obtain ⟨W, hW, hwW, hWs, hx⟩ := boxes1 w #[.string f.name, .slice A1 f.params.length k1, .int .i64 f.ret, .slice A2 n k2] 25
  have q0 : ∀ w', Below W.heap.size W w' → w'.cell? ⟨w.heap.size, 0, none⟩ = some (.string f.name) := hx 0 _ rfl
  have q1 : ∀ w', Below W.heap.size W w' → w'.cell? ⟨w.heap.size, 1, none⟩ = some (.slice A1 f.params.length k1) := hx 1 _ rfl
  have q2 : ∀ w', Below W.heap.size W w' → w'.cell? ⟨w.heap.size, 2, none⟩ = some (.int .i64 f.ret) := hx 2 _ rfl
  have q3 : ∀ w', Below W.heap.size W w' → w'.cell? ⟨w.heap.size, 3, none⟩ = some (.slice A2 n k2) := hx 3 _ rfl
  clear hx
  have hws : w.heap.size ≤ W.heap.size := by omega
  replace hWs := hide hWs
  have hself := Below.refl W.heap.size W
  have hF : Hid (∀ w', Below W.heap.size W w' → RFun.rep w' w'.heap.size [.string f.name, .slice A1 f.params.length k1, .int .i64 f.ret, .slice A2 n k2] f) := hide (fun w' h => RFun.later hf ((hwW.trans (h.mono hws)).mono hB) (Nat.le_trans hB (hwW.trans (h.mono hws)).size))
  have cP : Hid (∀ w', Below W.heap.size W w' → Calls Try.prog 25 #[f.v (.slice A1 f.params.length k1) (.slice A2 n k2)] w' (PredPost n P w')) := hide (fun w' h => by
    have := preds_any f (.slice A1 f.params.length k1) (.slice A2 n k2) w' w'.heap.size (Nat.le_refl _) (hF.out w' h) hs
    rwa [← hn.out, ← hsc.out, ← hP.out] at this)
  have cLa : Hid (∀ (gp Bp : Nat) (csp : List Value) w', Below W.heap.size W w' → OwnL w' Bp none (.slice (some ⟨gp, 0, none⟩) n n) P csp → Calls Try.prog 38 #[f.v (.slice A1 f.params.length k1) (.slice A2 n k2), .slice (some ⟨gp, 0, none⟩) n n] w' (LatPost sc O P n w')) := hide (fun gp Bp csp w' hb hl => by
    have := latches_any f (.slice A1 f.params.length k1) (.slice A2 n k2) w' w'.heap.size (Nat.le_refl _) (hF.out w' hb) hs gp Bp csp (by rw [← hn.out, ← hsc.out, ← hP.out]; exact hl)
    rwa [← hn.out, ← hO.out, ← hsc.out, ← hP.out] at this)
  rw [← hP.out]
  replace hs := hide hs
  replace hf := hide hf
  replace hwW := hide hwW
  obtain ⟨i0, hi0, hz0, hz1, hz2⟩ := cinfo_parts cinfo_int
  replace hi0 := hide hi0
  replace hz0 := hide hz0
  replace hz1 := hide hz1
  replace hz2 := hide hz2
  by_cases hin : 0 ≤ h ∧ h < n
  · obtain ⟨a, rfl⟩ := Int.eq_ofNat_of_zero_le hin.1
    have hlta : a < n := by omega
    have hai : ¬ (a : Int) ≥ (n : Int) := by omega
    have ha0 : ¬ (a : Int) < 0 := by omega
    have hres : Hid (latI sc O P n (a : Int) = latF sc O P a) := hide (by unfold latI; rw [if_pos hin]; rfl)
    have hres2 : Hid (outI sc O P n (a : Int) = outF sc O P a) := hide (by unfold outI; rw [if_pos hin]; rfl)
    rw [hres.out, hres2.out]
    replace hin := hide hin
    replace hW := hide hW
    go_enter Try.func45, Try.ntmps45
    go_upto_region 1 with (fail)
    rw [hW.out]
    clear hW
    go_wp2_with (fail)
    refine (cP.out _ hself).mono ?_
    rintro e X1 ⟨gp, csp, rfl, hL, hb2⟩
    have hsX1 := hb2.size
    have cL1 := cLa.out gp W.heap.size csp X1 hb2 hL
    go_wp2_with (fail)
    refine cL1.mono ?_
    rintro e X ⟨gl, csl, rfl, hLt, hb3⟩
    have hbX := hb2.trans (hb3.mono hsX1)
    have hwX : Hid (∀ w', Below X.heap.size X w' → Below w.heap.size w w') := hide (fun w' h => hwW.out.trans ((hbX.trans (h.mono hbX.size)).mono hws))
    have hwXs : Hid (w.heap.size ≤ X.heap.size) := hide (Nat.le_trans hws hbX.size)
    have hpr := hide (rows_reads (hL.below hb3) hPl)
    have hlr := hide (rows_reads hLt (show (latL sc O P n).length = n by simp [latL]))
    have hlat : (latL sc O P n)[a]? = some (latF sc O P a) := by simp [latL, hlta]
    obtain ⟨vl, hvl, hLI⟩ := hLt.at_ hlat
    obtain ⟨AL, CL, rl, -⟩ := hlr.out a _ hlat
    have hPm : Hid (∀ (k : Nat) p, P[k]? = some p → p.length ≤ 2000000 ∧ ∀ x, x ∈ p ↔ (0 ≤ x ∧ x < n ∧ (k : Int) ∈ sc x)) := hide (fun k p hk => by
      rw [hP.out] at hk
      have hm := fun x => predsL_mem hk x
      refine ⟨?_, hm⟩
      have := range_len n p ((predsL_sorted hk).imp fun h => by omega) (fun x hx => ⟨((hm x).1 hx).1, ((hm x).1 hx).2.1⟩)
      omega)
    obtain ⟨p, hp⟩ := get_ex (l := P) (k := a) (by omega)
    obtain ⟨Ap, Cp, rp, rpx⟩ := hpr.out a p hp.out
    obtain ⟨hpl, hpm⟩ := hPm.out a p hp.out
    have hPe := hide (outP_end (sc := sc) (o := O) hp.out)
    have hLe := latP_end (sc := sc) (o := O) hp.out
    have hLm : Hid (∀ x, x ∈ p → decide (x ∈ latF sc O P a) = domB sc O a x) := hide (fun x hx => by
      rw [← hLe, Bool.eq_iff_iff, decide_eq_true_iff]
      unfold latP
      rw [List.take_length, List.mem_filter]
      exact ⟨fun h => h.2, fun h => ⟨hx, h⟩⟩)
    have hself0 := Below.refl X.heap.size X
    have hvl2 : vl = .slice AL (latF sc O P a).length CL := by
      have h1 := rl X hself0
      have hr := hLt.row
      have e : (latL sc O P n).length = n := by simp [latL]
      rw [e] at hr
      have hcl : a < csl.length := (List.getElem?_eq_some_iff.1 hvl).1
      rw [World.ownsRow.cellAt hr a (by omega), hvl] at h1
      exact Option.some.inj h1
    subst hvl2
    obtain ⟨LT, hLTe⟩ : ∃ LT, Hid (LT = latF sc O P a) := ⟨_, hide rfl⟩
    rw [← hLTe.out] at hLI hLm rl
    have hLTl : LT.length ≤ 4000000 := by rw [hLTe.out, ← hLe]; have := latP_len (sc := sc) (o := O) (p := p) (h := a) (i := p.length); omega
    have cH : Hid (∀ (t : Int) w', Below X.heap.size X w' → Calls Try.prog 53 #[.slice AL LT.length CL, .int .i64 t] w' fun e w'' => e = .returned (.bool (decide (t ∈ LT))) ∧ Below w'.heap.size w' w'') := hide (fun t w' h => contains_any _ LT t w' w'.heap.size (Nat.le_refl _) (hLI.below h).rep)
    have hdl : Hid (decide (LT ≠ []) = decide (0 < LT.length)) := hide (by
      rw [Bool.eq_iff_iff, decide_eq_true_iff, decide_eq_true_iff]
      cases LT <;> simp)
    replace hLe := hide hLe
    replace hLI := hide hLI
    replace hvl := hide hvl
    replace hlat := hide hlat
    replace hLt := hide hLt
    replace hpm := hide hpm
    replace rpx := hide rpx
    have hLn : Hid (∀ x, x ∈ p → 0 ≤ x ∧ x < n) := hide (fun x hx => ⟨((hpm.out x).1 hx).1, ((hpm.out x).1 hx).2.1⟩)
    obtain ⟨m, hm⟩ : ∃ m, Hid (m = p.length) := ⟨_, hide rfl⟩
    rw [← hm.out] at rp hpl hPe
    obtain ⟨mL, hmL⟩ : ∃ mL, Hid (mL = LT.length) := ⟨_, hide rfl⟩
    rw [← hmL.out] at cH hLTl rl
    have hst : Hid (OwnI X X.heap.size (.slice none 0 0) (outP sc O p a 0)) := hide (by simp only [outP, List.take_zero, List.filter_nil]; exact OwnI.nil_)
    have hselfX := Below.refl X.heap.size X
    clear hL hb2 hb3 hbX hsX1 cP cLa cL1 q0 q1 q2 q3 hself hself0 hpr hlr
    go_wp2
    go_loopw [8, 33] (fun s5 j wr => ∃ (i : Nat) (A : Option Addr) (C : Nat) (q : List Int), j = .int .i64 i ∧ s5 = .slice A q.length C ∧ i ≤ m ∧ Hid (q = outP sc O p a i) ∧ Hid (OwnI wr X.heap.size (.slice A q.length C) q) ∧ Below X.heap.size X wr) (fun _ j _ => m - (intOf j).toNat)
    case atStart => exact ⟨0, none, 0, [], rfl, rfl, Nat.zero_le _, hide (by simp [outP]), hide (by simpa [outP] using hst.out), hselfX⟩
    case round =>
      clear hst hselfX rp
      rename World => V
      obtain ⟨i, Ar, kr, r, rfl, rfl, hi, hre, hrow, hbel⟩ := hrel
      by_cases hlti : i < m
      · have hii : (i : Int) < (m : Int) := by omega
        obtain ⟨x0, hx0'⟩ := get_ex (l := p) (k := i) (by rw [← hm.out]; exact hlti)
        obtain ⟨g5, hg5, rx⟩ := rpx.out (by rw [← hm.out]; omega)
        subst hg5
        have rx0 := rx i _ hx0'.out V hbel
        clear rx
        have hx0m := List.mem_of_getElem? hx0'.out
        obtain ⟨hm1', hm2''⟩ := hLn.out x0 hx0m
        have cH0 := hide (cH.out x0 V hbel)
        rw [hLm.out x0 hx0m] at cH0
        have hstep := outP_step (sc := sc) (o := O) (h := a) hx0'.out
        rw [← hre.out] at hstep
        replace hx0m := hide hx0m
        obtain ⟨d, hd⟩ : ∃ d, Hid (domB sc O a x0 = d) := ⟨_, hide rfl⟩
        rw [hd.out] at hstep cH0
        have hbs := hbel.size
        go_wp2_with (fail)
        refine cH0.out.mono ?_
        rintro e V2 ⟨rfl, hbV2⟩
        have hbel2 := hbel.trans (hbV2.mono hbs)
        have hrow2 := hide (hrow.out.kept (w' := V2) fun k _ hk => hbV2.block k hk)
        have hbs2 := hbel2.size
        clear hrow hbel hbs hbV2 rx0 cH0
        cases d with
        | false =>
          have hrl : r.length ≤ 2000000 := by have := outP_len (sc := sc) (o := O) (p := p) (h := a) (i := i); rw [hre.out]; have := hm.out; omega
          have hbI : Hid (I64 x0) := hide (i64_mk (by omega) (by omega))
          have hnx : Hid (r ++ [x0] = outP sc O p a (i + 1)) := hide (by rw [hstep]; simp)
          replace hstep := hide hstep
          go_wp2_with (first
            | (at_builtin
               refine wpList_append_own _ rfl (.tmp 41) (.tmp 43) _ rfl X.heap.size 3 i0 _ 1 8 Try.underlying22 hi0.out hz0.out hz1.out hz2.out rfl (by omega) (.slice Ar r.length kr) _ _ rfl (hrow2.out.row.alloc _) ⟨V2.heap.size, 0, none⟩ 1 1 [.int .i64 x0] rfl rfl ?c1 ?c2 ?c3 ?c4 ?c5 ?_
               case c1 => exact World.news_of_block (cs := #[.int .i64 x0]) (t := 3) (fr := (0, 0)) (heap_alloc_new V2 _)
               case c2 => simp [Value.oneCell']
               case c3 => unfold maxLen; omega
               case c4 => omega
               case c5 => first | (simp; omega) | simp | omega
               intro v1 w1 hown1 hg1 _
               have hbw1 : Below X.heap.size X w1 := (hbel2.alloc hbs2 _).grown hg1 (by simp; omega) (fun k hk => (row_lt hrow2.out.row hk).1)
               obtain ⟨A8, C8, hv8⟩ := row_form (OwnI.snoc hrow2.out.ok hbI.out hown1).row
               have hL := hide (OwnI.snoc hrow2.out.ok hbI.out hown1)
               subst hv8
               replace hown1 := hide hown1
               replace hg1 := hide hg1))
          go_roundw
          case rel => exact ⟨i + 1, A8, C8, r ++ [x0], by go_num, by simp, hlti, hnx, hL, hbw1⟩
          case measure => simp [intOf]; omega
        | true =>
          have hnx : Hid (r = outP sc O p a (i + 1)) := hide (by rw [hstep]; simp)
          replace hstep := hide hstep
          go_wp2
          go_roundw
          case rel => exact ⟨i + 1, Ar, kr, r, by go_num, rfl, hlti, hnx, hrow2, hbel2⟩
          case measure => simp [intOf]; omega
      · obtain rfl : i = m := by omega
        have hfin : Hid (OwnI V w.heap.size (.slice Ar r.length kr) (outF sc O P a)) := hide (by rw [← hPe.out, ← hre.out]; exact hrow.out.mono hwXs.out)
        have hw := hide (hwX.out V hbel)
        go_wp2
        go_ret2
        exact ⟨_, by rw [← hLTe.out, hdl.out, ← hmL.out]; rfl, hfin.out, hw.out⟩
  · have hres : Hid (latI sc O P n h = []) := hide (by unfold latI; rw [if_neg hin])
    have hres2 : Hid (outI sc O P n h = []) := hide (by unfold outI; rw [if_neg hin])
    rw [hres.out, hres2.out]
    have hfin : Hid (OwnI W w.heap.size (.slice none 0 0) []) := hide OwnI.nil_
    have hout : h < 0 ∨ ¬ h < 0 ∧ h ≥ (n : Int) := by omega
    replace hin := hide hin
    rcases hout with h0 | ⟨h0, h1⟩
    · go_enter Try.func45, Try.ntmps45
      go_wp2
      go_ret2
      exact ⟨_, rfl, hfin.out, hwW.out⟩
    · go_enter Try.func45, Try.ntmps45
      go_wp2
      go_ret2
      exact ⟨_, rfl, hfin.out, hwW.out⟩
end Go.Proofs.Ytidjaohlaljmpaa

namespace Go.Proofs.Ytidjaohlaljmpaa
open Go.RowKit
set_option linter.unusedSimpArgs false
set_option linter.unusedVariables false

def AhPost (r : Int) (w : World) (e : Ending) (w' : World) : Prop := e = .returned (.tuple #[.int .i64 (if 0 ≤ r then r else 0), .bool (decide (0 ≤ r))]) ∧ Below w.heap.size w w'
set_option maxRecDepth 100000 in
set_option maxHeartbeats 12800000 in
theorem lahead_any (f : Fun) (h : Int) (c1 c2 : Value) (w : World) (B : Nat) (hB : B ≤ w.heap.size) (hf : RFun.rep w B [.string f.name, c1, .int .i64 f.ret, c2] f) (hs : Small f) :
    Calls Try.prog 19 #[f.v c1 c2, .int .i64 h] w (AhPost (aheadR (succsF f.blocks) (orderF f.blocks) (predsL (succsF f.blocks) f.blocks.length) f.blocks.length h) w) := by
  obtain ⟨hp, hb⟩ := fun_open (RFun.later hf (Below.refl _ _) hB)
  obtain ⟨A1, k1, h1, -, -⟩ := Rp.slice1_open hp
  obtain ⟨A2, k2, h2, hm2, -⟩ := Rp.slice1_open hb
  cases h1; cases h2
  clear hp hb
  obtain ⟨n, hn⟩ : ∃ n, Hid (n = f.blocks.length) := ⟨_, hide rfl⟩
  have hnle : n ≤ 2000000 := by rw [hn.out]; exact hs.blocks
  obtain ⟨O, hO⟩ : ∃ O, Hid (O = orderF f.blocks) := ⟨_, hide rfl⟩
  obtain ⟨sc, hsc⟩ : ∃ sc, Hid (sc = succsF f.blocks) := ⟨_, hide rfl⟩
  obtain ⟨R, hR⟩ : ∃ R, Hid (R = reachF f.blocks) := ⟨_, hide rfl⟩
  obtain ⟨P, hP⟩ : ∃ P, Hid (P = predsL sc n) := ⟨_, hide rfl⟩
  have hPl : P.length = n := by rw [hP.out, predsL_len]
  have hRl : R.length = n := by rw [hR.out, hn.out, reach_len]
  have hsok : Hid (∀ b, SuccOk n (sc b)) := hide (fun b => by rw [hsc.out, hn.out]; exact succsF_ok _ _)
  have hok : Hid (OrderOk n sc O) := hide (by rw [hO.out, hn.out, hsc.out]; exact order_ok _)
  have hol : O.length ≤ n := by rw [hO.out, hn.out]; exact order_len _
  have hRat : Hid (∀ k : Nat, k < n → R[k]? = some (decide ((k : Int) ∈ O))) := hide (fun k hk => by rw [hR.out, hO.out]; exact reach_at _ _ (by rw [← hn.out]; exact hk))
  rw [← hn.out, ← hsc.out, ← hO.out]
  rw [← hn.out] at hf hm2
  obtain ⟨W, hW, hwW, hWs, hx⟩ := boxes1 w #[.string f.name, .slice A1 f.params.length k1, .int .i64 f.ret, .slice A2 n k2] 25
  have q0 : ∀ w', Below W.heap.size W w' → w'.cell? ⟨w.heap.size, 0, none⟩ = some (.string f.name) := hx 0 _ rfl
  have q1 : ∀ w', Below W.heap.size W w' → w'.cell? ⟨w.heap.size, 1, none⟩ = some (.slice A1 f.params.length k1) := hx 1 _ rfl
  have q2 : ∀ w', Below W.heap.size W w' → w'.cell? ⟨w.heap.size, 2, none⟩ = some (.int .i64 f.ret) := hx 2 _ rfl
  have q3 : ∀ w', Below W.heap.size W w' → w'.cell? ⟨w.heap.size, 3, none⟩ = some (.slice A2 n k2) := hx 3 _ rfl
  clear hx
  have hws : w.heap.size ≤ W.heap.size := by omega
  replace hWs := hide hWs
  have hself := Below.refl W.heap.size W
  have hF : Hid (∀ w', Below W.heap.size W w' → RFun.rep w' w'.heap.size [.string f.name, .slice A1 f.params.length k1, .int .i64 f.ret, .slice A2 n k2] f) := hide (fun w' h => RFun.later hf ((hwW.trans (h.mono hws)).mono hB) (Nat.le_trans hB (hwW.trans (h.mono hws)).size))
  have cR : Hid (∀ w', Below W.heap.size W w' → Calls Try.prog 24 #[f.v (.slice A1 f.params.length k1) (.slice A2 n k2)] w' (ReachPost n R w')) := hide (fun w' h => by
    have := reach_any f (.slice A1 f.params.length k1) (.slice A2 n k2) w' w'.heap.size (Nat.le_refl _) (hF.out w' h) hs
    rwa [← hn.out, ← hR.out] at this)
  have cOu : Hid (∀ w', Below W.heap.size W w' → Calls Try.prog 45 #[f.v (.slice A1 f.params.length k1) (.slice A2 n k2), .int .i64 h] w' (OutPost (outI sc O P n h) (decide (latI sc O P n h ≠ [])) w')) := hide (fun w' hb => by
    have := louter_any f h (.slice A1 f.params.length k1) (.slice A2 n k2) w' w'.heap.size (Nat.le_refl _) (hF.out w' hb) hs
    rwa [← hn.out, ← hO.out, ← hsc.out, ← hP.out] at this)
  have cSu : Hid (∀ (b : Int) w', Below W.heap.size W w' → Calls Try.prog 27 #[f.v (.slice A1 f.params.length k1) (.slice A2 n k2), .int .i64 b] w' (SuccPost (sc b) w')) := hide (fun b w' hb => by
    have := succs_any f b (.slice A1 f.params.length k1) (.slice A2 n k2) w' w'.heap.size (Nat.le_refl _) (hF.out w' hb) hs
    rwa [← hsc.out] at this)
  rw [← hP.out]
  replace hs := hide hs
  replace hf := hide hf
  replace hwW := hide hwW
  obtain ⟨ans, hans⟩ : ∃ ans, Hid (ans = aheadR sc O P n h) := ⟨_, hide rfl⟩
  rw [← hans.out]
  have hla : Hid (latI sc O P n h ≠ [] → 0 ≤ h ∧ h < n) := hide (fun e => Classical.byContradiction fun g => e (by unfold latI; rw [if_neg g]))
  have hll0 : Hid (latI sc O P n h = [] → ans = -1) := hide (fun e => by rw [hans.out]; unfold aheadR; rw [if_pos e])
  have hll1 : Hid (latI sc O P n h ≠ [] → ans = ahead1 sc O (outI sc O P n h)) := hide (fun e => by rw [hans.out]; unfold aheadR outI; rw [if_neg e, if_pos (hla.out e)])
  have hLb : Hid (∀ x, x ∈ outI sc O P n h → 0 ≤ x ∧ x < n) := hide (fun x hx => by
    unfold outI at hx
    by_cases hin : 0 ≤ h ∧ h < n
    · rw [if_pos hin] at hx
      unfold outF at hx
      have hx2 := (List.mem_filter.1 hx).1
      obtain ⟨p, hp⟩ := get_ex (l := P) (k := h.toNat) (by omega)
      rw [hp.out] at hx2
      have hp2 := hp.out
      rw [hP.out] at hp2
      have := (predsL_mem hp2 x).1 hx2
      exact ⟨this.1, this.2.1⟩
    · rw [if_neg hin] at hx
      cases hx)
  have hfalse : Hid (ans = -1 → (Value.tuple #[.int .i64 (if 0 ≤ ans then ans else 0), .bool (decide (0 ≤ ans))]) = Value.tuple #[.int .i64 0, .bool false]) := hide (fun e => by rw [e]; rfl)
  replace hW := hide hW
  go_enter Try.func19, Try.ntmps19
  go_upto_region 1 with (fail)
  rw [hW.out]
  clear hW
  go_wp2_with (fail)
  refine (cOu.out _ hself).mono ?_
  rintro e X ⟨vL, rfl, hL, hb1⟩
  obtain ⟨AL, CL, rfl⟩ := row_form hL.row
  have hwX : Hid (∀ w', Below X.heap.size X w' → Below w.heap.size w w') := hide (fun w' h => hwW.out.trans ((hb1.trans (h.mono hb1.size)).mono hws))
  have hWX : Hid (∀ w', Below X.heap.size X w' → Below W.heap.size W w') := hide (fun w' h => hb1.trans (h.mono hb1.size))
  have hselfX := Below.refl X.heap.size X
  obtain ⟨L, hLe⟩ : ∃ L, Hid (L = outI sc O P n h) := ⟨_, hide rfl⟩
  rw [← hLe.out] at hL hll1 hLb ⊢
  obtain ⟨ok, hok9⟩ : ∃ ok, Hid (decide (latI sc O P n h ≠ []) = ok) := ⟨_, hide rfl⟩
  rw [hok9.out]
  cases ok with
  | false =>
    have hr : Hid (ans = -1) := hide (hll0.out (by have := hok9.out; rw [decide_eq_false_iff_not] at this; exact Classical.byContradiction this))
    obtain ⟨ml, hml⟩ : ∃ ml, Hid (L.length = ml) := ⟨_, hide rfl⟩
    rw [hml.out]
    have hw : Hid (∀ q, Below w.heap.size w (X.drewN q)) := hide (fun q => hwX.out _ (bdn hselfX q))
    replace hL := hide hL
    replace hfalse := hide (hfalse.out hr.out)
    go_upto_region 2 with (fail)
    go_quiet (fail)
    go_wp2
    go_ret2
    exact ⟨by rw [hfalse.out]; rfl, hw.out _⟩
  | true =>
    have hr1 : Hid (ans = ahead1 sc O L) := hide (hll1.out (of_decide_eq_true hok9.out))
    obtain ⟨AL', CL', he', hLx⟩ := int_reads hL
    cases he'
    replace hL := hide hL
    replace hLx := hide hLx
    by_cases hl1 : L.length = 1
    · obtain ⟨x, rfl⟩ := List.length_eq_one_iff.1 hl1
      obtain ⟨hx0, hx1⟩ := hLb.out x (by simp)
      obtain ⟨y, rfl⟩ := Int.eq_ofNat_of_zero_le hx0
      have hyn : y < n := by omega
      obtain ⟨g, rfl, rx⟩ := hLx.out (by simp)
      have rx0 := rx 0 _ rfl
      replace hl1 := hide hl1
      have hlen1 : ((([(y : Int)] : List Int).length : Nat) : Int) = 1 := rfl
      clear rx
      have z0 : ∀ w', Below X.heap.size X w' → w'.cell? ⟨w.heap.size, 0, none⟩ = some (.string f.name) := fun w' h => q0 w' (hWX.out w' h)
      have z1 : ∀ w', Below X.heap.size X w' → w'.cell? ⟨w.heap.size, 1, none⟩ = some (.slice A1 f.params.length k1) := fun w' h => q1 w' (hWX.out w' h)
      have z2 : ∀ w', Below X.heap.size X w' → w'.cell? ⟨w.heap.size, 2, none⟩ = some (.int .i64 f.ret) := fun w' h => q2 w' (hWX.out w' h)
      have z3 : ∀ w', Below X.heap.size X w' → w'.cell? ⟨w.heap.size, 3, none⟩ = some (.slice A2 n k2) := fun w' h => q3 w' (hWX.out w' h)
      have hRy := hRat.out y hyn
      have hyO : Hid (ans = if decide ((y : Int) ∈ O) = true ∧ (sc (y : Int)).length = 1 then (y : Int) else -1) := hide (by rw [hr1.out]; rfl)
      obtain ⟨d, hd⟩ : ∃ d, Hid (decide ((y : Int) ∈ O) = d) := ⟨_, hide rfl⟩
      rw [hd.out] at hRy hyO
      replace hRy := hide hRy
      have cR0 := hide (cR.out X.drew (hWX.out _ hselfX.drew))
      have hdX := hselfX.drew
      clear q0 q1 q2 q3 hself hb1
      cases d with
      | false =>
        have hr : Hid (ans = -1) := hide (by rw [hyO.out]; simp)
        replace hfalse := hide (hfalse.out hr.out)
        go_upto_region 2 with (fail)
        refine wp_region_held_drew (S := fun w' => Below X.heap.size X w') (by kernel_rfl) (hselfX.drew) (fun hHeld => ?_)
        refine wpAnyH_take (i := 0) (v := ?_) (by simp only [List.getElem?_toArray, List.getElem?_cons_succ, List.getElem?_cons_zero]; rfl) (by kernel_rfl) (by kernel_rfl) (by kernel_rfl) (by exact fun _ _ _ h => h) (Or.inl ⟨by rfl, ?_⟩) (by assumption) ?_
        rotate_left
        · intro w9 hSw
          go_simp
          all_goals with_reducible rfl
        try simp only [Act.put, List.setIfInBounds_toArray, List.set_cons_zero, List.set_cons_succ]
        refine wpAnyH_take (i := 1) (v := ?_) (by simp only [List.getElem?_toArray, List.getElem?_cons_succ, List.getElem?_cons_zero]; rfl) (by kernel_rfl) (by kernel_rfl) (by kernel_rfl) (by exact fun _ _ _ h => h) (Or.inl ⟨by rfl, ?_⟩) (by assumption) ?_
        rotate_left
        · intro w9 hSw
          go_simp
          all_goals with_reducible rfl
        try simp only [Act.put, List.setIfInBounds_toArray, List.set_cons_zero, List.set_cons_succ]
        refine wpAnyH_take (i := 2) (v := ?_) (by simp only [List.getElem?_toArray, List.getElem?_cons_succ, List.getElem?_cons_zero]; rfl) (by kernel_rfl) (by kernel_rfl) (by kernel_rfl) (by exact fun _ _ _ h => h) (Or.inl ⟨by rfl, ?_⟩) (by assumption) ?_
        rotate_left
        · intro w9 hSw
          go_simp
          all_goals with_reducible rfl
        try simp only [Act.put, List.setIfInBounds_toArray, List.set_cons_zero, List.set_cons_succ]
        refine wpAnyH_take (i := 3) (v := ?_) (by simp only [List.getElem?_toArray, List.getElem?_cons_succ, List.getElem?_cons_zero]; rfl) (by kernel_rfl) (by kernel_rfl) (by kernel_rfl) (by exact fun _ _ _ h => h) (Or.inl ⟨by rfl, ?_⟩) (by assumption) ?_
        rotate_left
        · intro w9 hSw
          go_simp
          all_goals with_reducible rfl
        try simp only [Act.put, List.setIfInBounds_toArray, List.set_cons_zero, List.set_cons_succ]
        refine wpAnyH_take (i := 4) (v := ?_) (by simp only [List.getElem?_toArray, List.getElem?_cons_succ, List.getElem?_cons_zero]; rfl) (by kernel_rfl) (by kernel_rfl) (by kernel_rfl) (by exact fun _ _ _ h => h) (Or.inl ⟨by rfl, ?_⟩) (by assumption) ?_
        rotate_left
        · intro w9 hSw
          go_simp
          all_goals with_reducible rfl
        try simp only [Act.put, List.setIfInBounds_toArray, List.set_cons_zero, List.set_cons_succ]
        refine wpAnyH_take (i := 5) (v := ?_) (by simp only [List.getElem?_toArray, List.getElem?_cons_succ, List.getElem?_cons_zero]; rfl) (by kernel_rfl) (by kernel_rfl) (by kernel_rfl) (by exact fun _ _ _ h => h) (Or.inl ⟨by rfl, ?_⟩) (by assumption) ?_
        rotate_left
        · intro w9 hSw
          go_simp
          all_goals with_reducible rfl
        try simp only [Act.put, List.setIfInBounds_toArray, List.set_cons_zero, List.set_cons_succ]
        refine wpAnyH_take (i := 6) (v := ?_) (by simp only [List.getElem?_toArray, List.getElem?_cons_succ, List.getElem?_cons_zero]; rfl) (by kernel_rfl) (by kernel_rfl) (by kernel_rfl) (by exact fun _ _ _ h => h) (Or.inl ⟨by rfl, ?_⟩) (by assumption) ?_
        rotate_left
        · intro w9 hSw
          go_simp
          all_goals with_reducible rfl
        try simp only [Act.put, List.setIfInBounds_toArray, List.set_cons_zero, List.set_cons_succ]
        refine wpAnyH_take (i := 7) (v := ?_) (by simp only [List.getElem?_toArray, List.getElem?_cons_succ, List.getElem?_cons_zero]; rfl) (by kernel_rfl) (by kernel_rfl) (by kernel_rfl) (by exact fun _ _ _ h => h) (Or.inl ⟨by rfl, ?_⟩) (by assumption) ?_
        rotate_left
        · intro w9 hSw
          go_simp
          all_goals with_reducible rfl
        try simp only [Act.put, List.setIfInBounds_toArray, List.set_cons_zero, List.set_cons_succ]
        refine wpAnyH_take (i := 8) (v := ?_) (by simp only [List.getElem?_toArray, List.getElem?_cons_succ, List.getElem?_cons_zero]; rfl) (by kernel_rfl) (by kernel_rfl) (by kernel_rfl) (by exact fun _ _ _ h => h) (Or.inl ⟨by rfl, ?_⟩) (by assumption) ?_
        rotate_left
        · intro w9 hSw
          go_simp
          all_goals with_reducible rfl
        try simp only [Act.put, List.setIfInBounds_toArray, List.set_cons_zero, List.set_cons_succ]
        refine wpAnyH_take (i := 10) (v := ?_) (by simp only [List.getElem?_toArray, List.getElem?_cons_succ, List.getElem?_cons_zero]; rfl) (by kernel_rfl) (by kernel_rfl) (by kernel_rfl) (by exact fun _ _ _ h => h) (Or.inl ⟨by rfl, ?_⟩) (by assumption) ?_
        rotate_left
        · intro w9 hSw
          go_simp
          all_goals with_reducible rfl
        try simp only [Act.put, List.setIfInBounds_toArray, List.set_cons_zero, List.set_cons_succ]
        refine wpAnyH_take (i := 11) (v := ?_) (by simp only [List.getElem?_toArray, List.getElem?_cons_succ, List.getElem?_cons_zero]; rfl) (by kernel_rfl) (by kernel_rfl) (by kernel_rfl) (by exact fun _ _ _ h => h) (Or.inl ⟨by rfl, ?_⟩) (by assumption) ?_
        rotate_left
        · intro w9 hSw
          go_simp
          all_goals with_reducible rfl
        try simp only [Act.put, List.setIfInBounds_toArray, List.set_cons_zero, List.set_cons_succ]
        refine wpAnyH_take (i := 12) (v := ?_) (by simp only [List.getElem?_toArray, List.getElem?_cons_succ, List.getElem?_cons_zero]; rfl) (by kernel_rfl) (by kernel_rfl) (by kernel_rfl) (by exact fun _ _ _ h => h) (Or.inl ⟨by rfl, ?_⟩) (by assumption) ?_
        rotate_left
        · intro w9 hSw
          go_simp
          all_goals with_reducible rfl
        try simp only [Act.put, List.setIfInBounds_toArray, List.set_cons_zero, List.set_cons_succ]
        refine wpAnyH_ready (rs := [9]) (by kernel_rfl) (by simp) ?_
        refine AllReadyH.cons (by simp only [List.getElem?_toArray, List.getElem?_cons_succ, List.getElem?_cons_zero]; rfl) (fun K hK => ?_) AllReadyH.nil
        go_simp
        go_at_call 24
        refine cR0.out.mono ?_
        rintro e X4 ⟨gr, rfl, hR4, hb4⟩
        have hk4 : Below X.heap.size X X4 := hselfX.drew.trans (hb4.mono (Nat.le_refl _))
        have rre := (bool_reads hR4).2 y _ hRy.out X4 (Below.refl _ _)
        clear hR4 hb4
        refine hK.out _ _ (hk4) (fun hHeld => ?_)
        clear hK K
        try simp only [Act.put, List.setIfInBounds_toArray, List.set_cons_zero, List.set_cons_succ]
        refine wpAnyH_take (i := 13) (v := ?_) (by simp only [List.getElem?_toArray, List.getElem?_cons_succ, List.getElem?_cons_zero]; rfl) (by kernel_rfl) (by kernel_rfl) (by kernel_rfl) (by exact fun _ _ _ h => h) (Or.inl ⟨by rfl, ?_⟩) (by assumption) ?_
        rotate_left
        · intro w9 hSw
          go_simp
          all_goals with_reducible rfl
        try simp only [Act.put, List.setIfInBounds_toArray, List.set_cons_zero, List.set_cons_succ]
        refine wpAnyH_ready (rs := [14]) (by kernel_rfl) (by simp) ?_
        refine AllReadyH.cons (by simp only [List.getElem?_toArray, List.getElem?_cons_succ, List.getElem?_cons_zero]; rfl) (fun K hK => ?_) AllReadyH.nil
        go_simp
        refine hK.out _ _ (hk4) (fun hHeld => ?_)
        clear hK K
        try simp only [Act.put, List.setIfInBounds_toArray, List.set_cons_zero, List.set_cons_succ]
        refine wpAnyH_take (i := 15) (v := ?_) (by simp only [List.getElem?_toArray, List.getElem?_cons_succ, List.getElem?_cons_zero]; rfl) (by kernel_rfl) (by kernel_rfl) (by kernel_rfl) (by exact fun _ _ _ h => h) (Or.inl ⟨by rfl, ?_⟩) (by assumption) ?_
        rotate_left
        · intro w9 hSw
          go_simp
          all_goals with_reducible rfl
        try simp only [Act.put, List.setIfInBounds_toArray, List.set_cons_zero, List.set_cons_succ]
        refine wpAnyH_take (i := 16) (v := ?_) (by simp only [List.getElem?_toArray, List.getElem?_cons_succ, List.getElem?_cons_zero]; rfl) (by kernel_rfl) (by kernel_rfl) (by kernel_rfl) (by exact fun _ _ _ h => h) (Or.inl ⟨by rfl, ?_⟩) (by assumption) ?_
        rotate_left
        · intro w9 hSw
          go_simp
          all_goals with_reducible rfl
        try simp only [Act.put, List.setIfInBounds_toArray, List.set_cons_zero, List.set_cons_succ]
        refine wpAnyH_take (i := 17) (v := ?_) (by simp only [List.getElem?_toArray, List.getElem?_cons_succ, List.getElem?_cons_zero]; rfl) (by kernel_rfl) (by kernel_rfl) (by kernel_rfl) (by exact fun _ _ _ h => h) (Or.inl ⟨by rfl, ?_⟩) (by assumption) ?_
        rotate_left
        · intro w9 hSw
          go_simp
          all_goals with_reducible rfl
        try simp only [Act.put, List.setIfInBounds_toArray, List.set_cons_zero, List.set_cons_succ]
        refine wpAnyH_take (i := 18) (v := undef) (by simp only [List.getElem?_toArray, List.getElem?_cons_succ, List.getElem?_cons_zero]; rfl) (by kernel_rfl) (by kernel_rfl) (by kernel_rfl) (by exact fun _ _ _ h => h) (Or.inr ⟨by rfl, rfl⟩) (by assumption) ?_
        try simp only [Act.put, List.setIfInBounds_toArray, List.set_cons_zero, List.set_cons_succ]
        refine wpAnyH_take (i := 19) (v := undef) (by simp only [List.getElem?_toArray, List.getElem?_cons_succ, List.getElem?_cons_zero]; rfl) (by kernel_rfl) (by kernel_rfl) (by kernel_rfl) (by exact fun _ _ _ h => h) (Or.inr ⟨by rfl, rfl⟩) (by assumption) ?_
        try simp only [Act.put, List.setIfInBounds_toArray, List.set_cons_zero, List.set_cons_succ]
        refine wpAnyH_take (i := 20) (v := undef) (by simp only [List.getElem?_toArray, List.getElem?_cons_succ, List.getElem?_cons_zero]; rfl) (by kernel_rfl) (by kernel_rfl) (by kernel_rfl) (by exact fun _ _ _ h => h) (Or.inr ⟨by rfl, rfl⟩) (by assumption) ?_
        try simp only [Act.put, List.setIfInBounds_toArray, List.set_cons_zero, List.set_cons_succ]
        refine wpAnyH_take (i := 21) (v := undef) (by simp only [List.getElem?_toArray, List.getElem?_cons_succ, List.getElem?_cons_zero]; rfl) (by kernel_rfl) (by kernel_rfl) (by kernel_rfl) (by exact fun _ _ _ h => h) (Or.inr ⟨by rfl, rfl⟩) (by assumption) ?_
        try simp only [Act.put, List.setIfInBounds_toArray, List.set_cons_zero, List.set_cons_succ]
        refine wpAnyH_take (i := 22) (v := undef) (by simp only [List.getElem?_toArray, List.getElem?_cons_succ, List.getElem?_cons_zero]; rfl) (by kernel_rfl) (by kernel_rfl) (by kernel_rfl) (by exact fun _ _ _ h => h) (Or.inr ⟨by rfl, rfl⟩) (by assumption) ?_
        try simp only [Act.put, List.setIfInBounds_toArray, List.set_cons_zero, List.set_cons_succ]
        refine wpAnyH_take (i := 23) (v := undef) (by simp only [List.getElem?_toArray, List.getElem?_cons_succ, List.getElem?_cons_zero]; rfl) (by kernel_rfl) (by kernel_rfl) (by kernel_rfl) (by exact fun _ _ _ h => h) (Or.inr ⟨by rfl, rfl⟩) (by assumption) ?_
        try simp only [Act.put, List.setIfInBounds_toArray, List.set_cons_zero, List.set_cons_succ]
        refine wpAnyH_take (i := 24) (v := undef) (by simp only [List.getElem?_toArray, List.getElem?_cons_succ, List.getElem?_cons_zero]; rfl) (by kernel_rfl) (by kernel_rfl) (by kernel_rfl) (by exact fun _ _ _ h => h) (Or.inr ⟨by rfl, rfl⟩) (by assumption) ?_
        try simp only [Act.put, List.setIfInBounds_toArray, List.set_cons_zero, List.set_cons_succ]
        refine wpAnyH_take (i := 25) (v := ?_) (by simp only [List.getElem?_toArray, List.getElem?_cons_succ, List.getElem?_cons_zero]; rfl) (by kernel_rfl) (by kernel_rfl) (by kernel_rfl) (by exact fun _ _ _ h => h) (Or.inl ⟨by rfl, ?_⟩) (by assumption) ?_
        rotate_left
        · intro w9 hSw
          go_simp
          all_goals with_reducible rfl
        try simp only [Act.put, List.setIfInBounds_toArray, List.set_cons_zero, List.set_cons_succ]
        refine wpAnyH_done (by kernel_rfl) ?_ _
        have hw := hide (hwX.out X4 hk4)
        go_wp2
        go_ret2
        exact ⟨by rw [hfalse.out]; rfl, hw.out⟩
      | true =>
        obtain ⟨ms, hms⟩ : ∃ ms, Hid ((sc (y : Int)).length = ms) := ⟨_, hide rfl⟩
        rw [hms.out] at hyO
        by_cases h9 : ms = 1
        · have hr : Hid (ans = y) := hide (by rw [hyO.out, h9]; simp)
          have hne9 : ((ms : Int) != 1) = false := by simp [h9]
          replace h9 := hide h9
          go_upto_region 2 with (fail)
          refine wp_region_held_drew (S := fun w' => Below X.heap.size X w') (by kernel_rfl) (hselfX.drew) (fun hHeld => ?_)
          refine wpAnyH_take (i := 0) (v := ?_) (by simp only [List.getElem?_toArray, List.getElem?_cons_succ, List.getElem?_cons_zero]; rfl) (by kernel_rfl) (by kernel_rfl) (by kernel_rfl) (by exact fun _ _ _ h => h) (Or.inl ⟨by rfl, ?_⟩) (by assumption) ?_
          rotate_left
          · intro w9 hSw
            go_simp
            all_goals with_reducible rfl
          try simp only [Act.put, List.setIfInBounds_toArray, List.set_cons_zero, List.set_cons_succ]
          refine wpAnyH_take (i := 1) (v := ?_) (by simp only [List.getElem?_toArray, List.getElem?_cons_succ, List.getElem?_cons_zero]; rfl) (by kernel_rfl) (by kernel_rfl) (by kernel_rfl) (by exact fun _ _ _ h => h) (Or.inl ⟨by rfl, ?_⟩) (by assumption) ?_
          rotate_left
          · intro w9 hSw
            go_simp
            all_goals with_reducible rfl
          try simp only [Act.put, List.setIfInBounds_toArray, List.set_cons_zero, List.set_cons_succ]
          refine wpAnyH_take (i := 2) (v := ?_) (by simp only [List.getElem?_toArray, List.getElem?_cons_succ, List.getElem?_cons_zero]; rfl) (by kernel_rfl) (by kernel_rfl) (by kernel_rfl) (by exact fun _ _ _ h => h) (Or.inl ⟨by rfl, ?_⟩) (by assumption) ?_
          rotate_left
          · intro w9 hSw
            go_simp
            all_goals with_reducible rfl
          try simp only [Act.put, List.setIfInBounds_toArray, List.set_cons_zero, List.set_cons_succ]
          refine wpAnyH_take (i := 3) (v := ?_) (by simp only [List.getElem?_toArray, List.getElem?_cons_succ, List.getElem?_cons_zero]; rfl) (by kernel_rfl) (by kernel_rfl) (by kernel_rfl) (by exact fun _ _ _ h => h) (Or.inl ⟨by rfl, ?_⟩) (by assumption) ?_
          rotate_left
          · intro w9 hSw
            go_simp
            all_goals with_reducible rfl
          try simp only [Act.put, List.setIfInBounds_toArray, List.set_cons_zero, List.set_cons_succ]
          refine wpAnyH_take (i := 4) (v := ?_) (by simp only [List.getElem?_toArray, List.getElem?_cons_succ, List.getElem?_cons_zero]; rfl) (by kernel_rfl) (by kernel_rfl) (by kernel_rfl) (by exact fun _ _ _ h => h) (Or.inl ⟨by rfl, ?_⟩) (by assumption) ?_
          rotate_left
          · intro w9 hSw
            go_simp
            all_goals with_reducible rfl
          try simp only [Act.put, List.setIfInBounds_toArray, List.set_cons_zero, List.set_cons_succ]
          refine wpAnyH_take (i := 5) (v := ?_) (by simp only [List.getElem?_toArray, List.getElem?_cons_succ, List.getElem?_cons_zero]; rfl) (by kernel_rfl) (by kernel_rfl) (by kernel_rfl) (by exact fun _ _ _ h => h) (Or.inl ⟨by rfl, ?_⟩) (by assumption) ?_
          rotate_left
          · intro w9 hSw
            go_simp
            all_goals with_reducible rfl
          try simp only [Act.put, List.setIfInBounds_toArray, List.set_cons_zero, List.set_cons_succ]
          refine wpAnyH_take (i := 6) (v := ?_) (by simp only [List.getElem?_toArray, List.getElem?_cons_succ, List.getElem?_cons_zero]; rfl) (by kernel_rfl) (by kernel_rfl) (by kernel_rfl) (by exact fun _ _ _ h => h) (Or.inl ⟨by rfl, ?_⟩) (by assumption) ?_
          rotate_left
          · intro w9 hSw
            go_simp
            all_goals with_reducible rfl
          try simp only [Act.put, List.setIfInBounds_toArray, List.set_cons_zero, List.set_cons_succ]
          refine wpAnyH_take (i := 7) (v := ?_) (by simp only [List.getElem?_toArray, List.getElem?_cons_succ, List.getElem?_cons_zero]; rfl) (by kernel_rfl) (by kernel_rfl) (by kernel_rfl) (by exact fun _ _ _ h => h) (Or.inl ⟨by rfl, ?_⟩) (by assumption) ?_
          rotate_left
          · intro w9 hSw
            go_simp
            all_goals with_reducible rfl
          try simp only [Act.put, List.setIfInBounds_toArray, List.set_cons_zero, List.set_cons_succ]
          refine wpAnyH_take (i := 8) (v := ?_) (by simp only [List.getElem?_toArray, List.getElem?_cons_succ, List.getElem?_cons_zero]; rfl) (by kernel_rfl) (by kernel_rfl) (by kernel_rfl) (by exact fun _ _ _ h => h) (Or.inl ⟨by rfl, ?_⟩) (by assumption) ?_
          rotate_left
          · intro w9 hSw
            go_simp
            all_goals with_reducible rfl
          try simp only [Act.put, List.setIfInBounds_toArray, List.set_cons_zero, List.set_cons_succ]
          refine wpAnyH_take (i := 10) (v := ?_) (by simp only [List.getElem?_toArray, List.getElem?_cons_succ, List.getElem?_cons_zero]; rfl) (by kernel_rfl) (by kernel_rfl) (by kernel_rfl) (by exact fun _ _ _ h => h) (Or.inl ⟨by rfl, ?_⟩) (by assumption) ?_
          rotate_left
          · intro w9 hSw
            go_simp
            all_goals with_reducible rfl
          try simp only [Act.put, List.setIfInBounds_toArray, List.set_cons_zero, List.set_cons_succ]
          refine wpAnyH_take (i := 11) (v := ?_) (by simp only [List.getElem?_toArray, List.getElem?_cons_succ, List.getElem?_cons_zero]; rfl) (by kernel_rfl) (by kernel_rfl) (by kernel_rfl) (by exact fun _ _ _ h => h) (Or.inl ⟨by rfl, ?_⟩) (by assumption) ?_
          rotate_left
          · intro w9 hSw
            go_simp
            all_goals with_reducible rfl
          try simp only [Act.put, List.setIfInBounds_toArray, List.set_cons_zero, List.set_cons_succ]
          refine wpAnyH_take (i := 12) (v := ?_) (by simp only [List.getElem?_toArray, List.getElem?_cons_succ, List.getElem?_cons_zero]; rfl) (by kernel_rfl) (by kernel_rfl) (by kernel_rfl) (by exact fun _ _ _ h => h) (Or.inl ⟨by rfl, ?_⟩) (by assumption) ?_
          rotate_left
          · intro w9 hSw
            go_simp
            all_goals with_reducible rfl
          try simp only [Act.put, List.setIfInBounds_toArray, List.set_cons_zero, List.set_cons_succ]
          refine wpAnyH_ready (rs := [9]) (by kernel_rfl) (by simp) ?_
          refine AllReadyH.cons (by simp only [List.getElem?_toArray, List.getElem?_cons_succ, List.getElem?_cons_zero]; rfl) (fun K hK => ?_) AllReadyH.nil
          go_simp
          go_at_call 24
          refine cR0.out.mono ?_
          rintro e X4 ⟨gr, rfl, hR4, hb4⟩
          have hk4 : Below X.heap.size X X4 := hselfX.drew.trans (hb4.mono (Nat.le_refl _))
          have rre := (bool_reads hR4).2 y _ hRy.out X4 (Below.refl _ _)
          clear hR4 hb4
          refine hK.out _ _ (hk4) (fun hHeld => ?_)
          clear hK K
          try simp only [Act.put, List.setIfInBounds_toArray, List.set_cons_zero, List.set_cons_succ]
          refine wpAnyH_take (i := 13) (v := ?_) (by simp only [List.getElem?_toArray, List.getElem?_cons_succ, List.getElem?_cons_zero]; rfl) (by kernel_rfl) (by kernel_rfl) (by kernel_rfl) (by exact fun _ _ _ h => h) (Or.inl ⟨by rfl, ?_⟩) (by assumption) ?_
          rotate_left
          · intro w9 hSw
            go_simp
            all_goals with_reducible rfl
          try simp only [Act.put, List.setIfInBounds_toArray, List.set_cons_zero, List.set_cons_succ]
          refine wpAnyH_ready (rs := [14]) (by kernel_rfl) (by simp) ?_
          refine AllReadyH.cons (by simp only [List.getElem?_toArray, List.getElem?_cons_succ, List.getElem?_cons_zero]; rfl) (fun K hK => ?_) AllReadyH.nil
          go_simp
          refine hK.out _ _ (hk4) (fun hHeld => ?_)
          clear hK K
          try simp only [Act.put, List.setIfInBounds_toArray, List.set_cons_zero, List.set_cons_succ]
          refine wpAnyH_take (i := 15) (v := ?_) (by simp only [List.getElem?_toArray, List.getElem?_cons_succ, List.getElem?_cons_zero]; rfl) (by kernel_rfl) (by kernel_rfl) (by kernel_rfl) (by exact fun _ _ _ h => h) (Or.inl ⟨by rfl, ?_⟩) (by assumption) ?_
          rotate_left
          · intro w9 hSw
            go_simp
            all_goals with_reducible rfl
          try simp only [Act.put, List.setIfInBounds_toArray, List.set_cons_zero, List.set_cons_succ]
          refine wpAnyH_take (i := 16) (v := ?_) (by simp only [List.getElem?_toArray, List.getElem?_cons_succ, List.getElem?_cons_zero]; rfl) (by kernel_rfl) (by kernel_rfl) (by kernel_rfl) (by exact fun _ _ _ h => h) (Or.inl ⟨by rfl, ?_⟩) (by assumption) ?_
          rotate_left
          · intro w9 hSw
            go_simp
            all_goals with_reducible rfl
          try simp only [Act.put, List.setIfInBounds_toArray, List.set_cons_zero, List.set_cons_succ]
          refine wpAnyH_take (i := 17) (v := ?_) (by simp only [List.getElem?_toArray, List.getElem?_cons_succ, List.getElem?_cons_zero]; rfl) (by kernel_rfl) (by kernel_rfl) (by kernel_rfl) (by exact fun _ _ _ h => h) (Or.inl ⟨by rfl, ?_⟩) (by assumption) ?_
          rotate_left
          · intro w9 hSw
            go_simp
            all_goals with_reducible rfl
          try simp only [Act.put, List.setIfInBounds_toArray, List.set_cons_zero, List.set_cons_succ]
          refine wpAnyH_take (i := 18) (v := ?_) (by simp only [List.getElem?_toArray, List.getElem?_cons_succ, List.getElem?_cons_zero]; rfl) (by kernel_rfl) (by kernel_rfl) (by kernel_rfl) (by exact fun _ _ _ h => h) (Or.inl ⟨by rfl, ?_⟩) (by assumption) ?_
          rotate_left
          · intro w9 hSw
            go_simp
            all_goals with_reducible rfl
          try simp only [Act.put, List.setIfInBounds_toArray, List.set_cons_zero, List.set_cons_succ]
          refine wpAnyH_take (i := 19) (v := ?_) (by simp only [List.getElem?_toArray, List.getElem?_cons_succ, List.getElem?_cons_zero]; rfl) (by kernel_rfl) (by kernel_rfl) (by kernel_rfl) (by exact fun _ _ _ h => h) (Or.inl ⟨by rfl, ?_⟩) (by assumption) ?_
          rotate_left
          · intro w9 hSw
            go_simp
            all_goals with_reducible rfl
          try simp only [Act.put, List.setIfInBounds_toArray, List.set_cons_zero, List.set_cons_succ]
          refine wpAnyH_take (i := 20) (v := ?_) (by simp only [List.getElem?_toArray, List.getElem?_cons_succ, List.getElem?_cons_zero]; rfl) (by kernel_rfl) (by kernel_rfl) (by kernel_rfl) (by exact fun _ _ _ h => h) (Or.inl ⟨by rfl, ?_⟩) (by assumption) ?_
          rotate_left
          · intro w9 hSw
            go_simp
            all_goals with_reducible rfl
          try simp only [Act.put, List.setIfInBounds_toArray, List.set_cons_zero, List.set_cons_succ]
          refine wpAnyH_take (i := 21) (v := ?_) (by simp only [List.getElem?_toArray, List.getElem?_cons_succ, List.getElem?_cons_zero]; rfl) (by kernel_rfl) (by kernel_rfl) (by kernel_rfl) (by exact fun _ _ _ h => h) (Or.inl ⟨by rfl, ?_⟩) (by assumption) ?_
          rotate_left
          · intro w9 hSw
            go_simp
            all_goals with_reducible rfl
          try simp only [Act.put, List.setIfInBounds_toArray, List.set_cons_zero, List.set_cons_succ]
          refine wpAnyH_ready (rs := [22]) (by kernel_rfl) (by simp) ?_
          refine AllReadyH.cons (by simp only [List.getElem?_toArray, List.getElem?_cons_succ, List.getElem?_cons_zero]; rfl) (fun K hK => ?_) AllReadyH.nil
          go_simp
          go_at_call 27
          refine (cSu.out (y : Int) X4 (hWX.out _ hk4)).mono ?_
          rintro e X5 ⟨vS, rfl, hS, hb5⟩
          have hk5 : Below X.heap.size X X5 := hk4.trans (hb5.mono hk4.size)
          obtain ⟨AS, CS, hvS⟩ := row_form hS.row
          subst hvS
          rw [hms.out]
          clear hS hb5
          refine hK.out _ _ (hk5) (fun hHeld => ?_)
          clear hK K
          try simp only [Act.put, List.setIfInBounds_toArray, List.set_cons_zero, List.set_cons_succ]
          refine wpAnyH_take (i := 23) (v := ?_) (by simp only [List.getElem?_toArray, List.getElem?_cons_succ, List.getElem?_cons_zero]; rfl) (by kernel_rfl) (by kernel_rfl) (by kernel_rfl) (by exact fun _ _ _ h => h) (Or.inl ⟨by rfl, ?_⟩) (by assumption) ?_
          rotate_left
          · intro w9 hSw
            go_simp
            all_goals with_reducible rfl
          try simp only [Act.put, List.setIfInBounds_toArray, List.set_cons_zero, List.set_cons_succ]
          refine wpAnyH_take (i := 24) (v := ?_) (by simp only [List.getElem?_toArray, List.getElem?_cons_succ, List.getElem?_cons_zero]; rfl) (by kernel_rfl) (by kernel_rfl) (by kernel_rfl) (by exact fun _ _ _ h => h) (Or.inl ⟨by rfl, ?_⟩) (by assumption) ?_
          rotate_left
          · intro w9 hSw
            go_simp
            all_goals with_reducible rfl
          try simp only [Act.put, List.setIfInBounds_toArray, List.set_cons_zero, List.set_cons_succ]
          refine wpAnyH_take (i := 25) (v := ?_) (by simp only [List.getElem?_toArray, List.getElem?_cons_succ, List.getElem?_cons_zero]; rfl) (by kernel_rfl) (by kernel_rfl) (by kernel_rfl) (by exact fun _ _ _ h => h) (Or.inl ⟨by rfl, ?_⟩) (by assumption) ?_
          rotate_left
          · intro w9 hSw
            go_simp
            all_goals with_reducible rfl
          try simp only [Act.put, List.setIfInBounds_toArray, List.set_cons_zero, List.set_cons_succ]
          refine wpAnyH_done (by kernel_rfl) ?_ _
          have rx5 := rx0 X5 hk5
          have hw := hide (hwX.out X5 hk5)
          go_wp2
          go_ret2
          exact ⟨by rw [hr.out, if_pos (by omega), decide_eq_true (by omega)]; rfl, hw.out⟩
        · have hr : Hid (ans = -1) := hide (by rw [hyO.out, if_neg (fun h => h9 h.2)])
          replace hfalse := hide (hfalse.out hr.out)
          have hne9 : ((ms : Int) != 1) = true := by simp; omega
          replace h9 := hide h9
          go_upto_region 2 with (fail)
          refine wp_region_held_drew (S := fun w' => Below X.heap.size X w') (by kernel_rfl) (hselfX.drew) (fun hHeld => ?_)
          refine wpAnyH_take (i := 0) (v := ?_) (by simp only [List.getElem?_toArray, List.getElem?_cons_succ, List.getElem?_cons_zero]; rfl) (by kernel_rfl) (by kernel_rfl) (by kernel_rfl) (by exact fun _ _ _ h => h) (Or.inl ⟨by rfl, ?_⟩) (by assumption) ?_
          rotate_left
          · intro w9 hSw
            go_simp
            all_goals with_reducible rfl
          try simp only [Act.put, List.setIfInBounds_toArray, List.set_cons_zero, List.set_cons_succ]
          refine wpAnyH_take (i := 1) (v := ?_) (by simp only [List.getElem?_toArray, List.getElem?_cons_succ, List.getElem?_cons_zero]; rfl) (by kernel_rfl) (by kernel_rfl) (by kernel_rfl) (by exact fun _ _ _ h => h) (Or.inl ⟨by rfl, ?_⟩) (by assumption) ?_
          rotate_left
          · intro w9 hSw
            go_simp
            all_goals with_reducible rfl
          try simp only [Act.put, List.setIfInBounds_toArray, List.set_cons_zero, List.set_cons_succ]
          refine wpAnyH_take (i := 2) (v := ?_) (by simp only [List.getElem?_toArray, List.getElem?_cons_succ, List.getElem?_cons_zero]; rfl) (by kernel_rfl) (by kernel_rfl) (by kernel_rfl) (by exact fun _ _ _ h => h) (Or.inl ⟨by rfl, ?_⟩) (by assumption) ?_
          rotate_left
          · intro w9 hSw
            go_simp
            all_goals with_reducible rfl
          try simp only [Act.put, List.setIfInBounds_toArray, List.set_cons_zero, List.set_cons_succ]
          refine wpAnyH_take (i := 3) (v := ?_) (by simp only [List.getElem?_toArray, List.getElem?_cons_succ, List.getElem?_cons_zero]; rfl) (by kernel_rfl) (by kernel_rfl) (by kernel_rfl) (by exact fun _ _ _ h => h) (Or.inl ⟨by rfl, ?_⟩) (by assumption) ?_
          rotate_left
          · intro w9 hSw
            go_simp
            all_goals with_reducible rfl
          try simp only [Act.put, List.setIfInBounds_toArray, List.set_cons_zero, List.set_cons_succ]
          refine wpAnyH_take (i := 4) (v := ?_) (by simp only [List.getElem?_toArray, List.getElem?_cons_succ, List.getElem?_cons_zero]; rfl) (by kernel_rfl) (by kernel_rfl) (by kernel_rfl) (by exact fun _ _ _ h => h) (Or.inl ⟨by rfl, ?_⟩) (by assumption) ?_
          rotate_left
          · intro w9 hSw
            go_simp
            all_goals with_reducible rfl
          try simp only [Act.put, List.setIfInBounds_toArray, List.set_cons_zero, List.set_cons_succ]
          refine wpAnyH_take (i := 5) (v := ?_) (by simp only [List.getElem?_toArray, List.getElem?_cons_succ, List.getElem?_cons_zero]; rfl) (by kernel_rfl) (by kernel_rfl) (by kernel_rfl) (by exact fun _ _ _ h => h) (Or.inl ⟨by rfl, ?_⟩) (by assumption) ?_
          rotate_left
          · intro w9 hSw
            go_simp
            all_goals with_reducible rfl
          try simp only [Act.put, List.setIfInBounds_toArray, List.set_cons_zero, List.set_cons_succ]
          refine wpAnyH_take (i := 6) (v := ?_) (by simp only [List.getElem?_toArray, List.getElem?_cons_succ, List.getElem?_cons_zero]; rfl) (by kernel_rfl) (by kernel_rfl) (by kernel_rfl) (by exact fun _ _ _ h => h) (Or.inl ⟨by rfl, ?_⟩) (by assumption) ?_
          rotate_left
          · intro w9 hSw
            go_simp
            all_goals with_reducible rfl
          try simp only [Act.put, List.setIfInBounds_toArray, List.set_cons_zero, List.set_cons_succ]
          refine wpAnyH_take (i := 7) (v := ?_) (by simp only [List.getElem?_toArray, List.getElem?_cons_succ, List.getElem?_cons_zero]; rfl) (by kernel_rfl) (by kernel_rfl) (by kernel_rfl) (by exact fun _ _ _ h => h) (Or.inl ⟨by rfl, ?_⟩) (by assumption) ?_
          rotate_left
          · intro w9 hSw
            go_simp
            all_goals with_reducible rfl
          try simp only [Act.put, List.setIfInBounds_toArray, List.set_cons_zero, List.set_cons_succ]
          refine wpAnyH_take (i := 8) (v := ?_) (by simp only [List.getElem?_toArray, List.getElem?_cons_succ, List.getElem?_cons_zero]; rfl) (by kernel_rfl) (by kernel_rfl) (by kernel_rfl) (by exact fun _ _ _ h => h) (Or.inl ⟨by rfl, ?_⟩) (by assumption) ?_
          rotate_left
          · intro w9 hSw
            go_simp
            all_goals with_reducible rfl
          try simp only [Act.put, List.setIfInBounds_toArray, List.set_cons_zero, List.set_cons_succ]
          refine wpAnyH_take (i := 10) (v := ?_) (by simp only [List.getElem?_toArray, List.getElem?_cons_succ, List.getElem?_cons_zero]; rfl) (by kernel_rfl) (by kernel_rfl) (by kernel_rfl) (by exact fun _ _ _ h => h) (Or.inl ⟨by rfl, ?_⟩) (by assumption) ?_
          rotate_left
          · intro w9 hSw
            go_simp
            all_goals with_reducible rfl
          try simp only [Act.put, List.setIfInBounds_toArray, List.set_cons_zero, List.set_cons_succ]
          refine wpAnyH_take (i := 11) (v := ?_) (by simp only [List.getElem?_toArray, List.getElem?_cons_succ, List.getElem?_cons_zero]; rfl) (by kernel_rfl) (by kernel_rfl) (by kernel_rfl) (by exact fun _ _ _ h => h) (Or.inl ⟨by rfl, ?_⟩) (by assumption) ?_
          rotate_left
          · intro w9 hSw
            go_simp
            all_goals with_reducible rfl
          try simp only [Act.put, List.setIfInBounds_toArray, List.set_cons_zero, List.set_cons_succ]
          refine wpAnyH_take (i := 12) (v := ?_) (by simp only [List.getElem?_toArray, List.getElem?_cons_succ, List.getElem?_cons_zero]; rfl) (by kernel_rfl) (by kernel_rfl) (by kernel_rfl) (by exact fun _ _ _ h => h) (Or.inl ⟨by rfl, ?_⟩) (by assumption) ?_
          rotate_left
          · intro w9 hSw
            go_simp
            all_goals with_reducible rfl
          try simp only [Act.put, List.setIfInBounds_toArray, List.set_cons_zero, List.set_cons_succ]
          refine wpAnyH_ready (rs := [9]) (by kernel_rfl) (by simp) ?_
          refine AllReadyH.cons (by simp only [List.getElem?_toArray, List.getElem?_cons_succ, List.getElem?_cons_zero]; rfl) (fun K hK => ?_) AllReadyH.nil
          go_simp
          go_at_call 24
          refine cR0.out.mono ?_
          rintro e X4 ⟨gr, rfl, hR4, hb4⟩
          have hk4 : Below X.heap.size X X4 := hselfX.drew.trans (hb4.mono (Nat.le_refl _))
          have rre := (bool_reads hR4).2 y _ hRy.out X4 (Below.refl _ _)
          clear hR4 hb4
          refine hK.out _ _ (hk4) (fun hHeld => ?_)
          clear hK K
          try simp only [Act.put, List.setIfInBounds_toArray, List.set_cons_zero, List.set_cons_succ]
          refine wpAnyH_take (i := 13) (v := ?_) (by simp only [List.getElem?_toArray, List.getElem?_cons_succ, List.getElem?_cons_zero]; rfl) (by kernel_rfl) (by kernel_rfl) (by kernel_rfl) (by exact fun _ _ _ h => h) (Or.inl ⟨by rfl, ?_⟩) (by assumption) ?_
          rotate_left
          · intro w9 hSw
            go_simp
            all_goals with_reducible rfl
          try simp only [Act.put, List.setIfInBounds_toArray, List.set_cons_zero, List.set_cons_succ]
          refine wpAnyH_ready (rs := [14]) (by kernel_rfl) (by simp) ?_
          refine AllReadyH.cons (by simp only [List.getElem?_toArray, List.getElem?_cons_succ, List.getElem?_cons_zero]; rfl) (fun K hK => ?_) AllReadyH.nil
          go_simp
          refine hK.out _ _ (hk4) (fun hHeld => ?_)
          clear hK K
          try simp only [Act.put, List.setIfInBounds_toArray, List.set_cons_zero, List.set_cons_succ]
          refine wpAnyH_take (i := 15) (v := ?_) (by simp only [List.getElem?_toArray, List.getElem?_cons_succ, List.getElem?_cons_zero]; rfl) (by kernel_rfl) (by kernel_rfl) (by kernel_rfl) (by exact fun _ _ _ h => h) (Or.inl ⟨by rfl, ?_⟩) (by assumption) ?_
          rotate_left
          · intro w9 hSw
            go_simp
            all_goals with_reducible rfl
          try simp only [Act.put, List.setIfInBounds_toArray, List.set_cons_zero, List.set_cons_succ]
          refine wpAnyH_take (i := 16) (v := ?_) (by simp only [List.getElem?_toArray, List.getElem?_cons_succ, List.getElem?_cons_zero]; rfl) (by kernel_rfl) (by kernel_rfl) (by kernel_rfl) (by exact fun _ _ _ h => h) (Or.inl ⟨by rfl, ?_⟩) (by assumption) ?_
          rotate_left
          · intro w9 hSw
            go_simp
            all_goals with_reducible rfl
          try simp only [Act.put, List.setIfInBounds_toArray, List.set_cons_zero, List.set_cons_succ]
          refine wpAnyH_take (i := 17) (v := ?_) (by simp only [List.getElem?_toArray, List.getElem?_cons_succ, List.getElem?_cons_zero]; rfl) (by kernel_rfl) (by kernel_rfl) (by kernel_rfl) (by exact fun _ _ _ h => h) (Or.inl ⟨by rfl, ?_⟩) (by assumption) ?_
          rotate_left
          · intro w9 hSw
            go_simp
            all_goals with_reducible rfl
          try simp only [Act.put, List.setIfInBounds_toArray, List.set_cons_zero, List.set_cons_succ]
          refine wpAnyH_take (i := 18) (v := ?_) (by simp only [List.getElem?_toArray, List.getElem?_cons_succ, List.getElem?_cons_zero]; rfl) (by kernel_rfl) (by kernel_rfl) (by kernel_rfl) (by exact fun _ _ _ h => h) (Or.inl ⟨by rfl, ?_⟩) (by assumption) ?_
          rotate_left
          · intro w9 hSw
            go_simp
            all_goals with_reducible rfl
          try simp only [Act.put, List.setIfInBounds_toArray, List.set_cons_zero, List.set_cons_succ]
          refine wpAnyH_take (i := 19) (v := ?_) (by simp only [List.getElem?_toArray, List.getElem?_cons_succ, List.getElem?_cons_zero]; rfl) (by kernel_rfl) (by kernel_rfl) (by kernel_rfl) (by exact fun _ _ _ h => h) (Or.inl ⟨by rfl, ?_⟩) (by assumption) ?_
          rotate_left
          · intro w9 hSw
            go_simp
            all_goals with_reducible rfl
          try simp only [Act.put, List.setIfInBounds_toArray, List.set_cons_zero, List.set_cons_succ]
          refine wpAnyH_take (i := 20) (v := ?_) (by simp only [List.getElem?_toArray, List.getElem?_cons_succ, List.getElem?_cons_zero]; rfl) (by kernel_rfl) (by kernel_rfl) (by kernel_rfl) (by exact fun _ _ _ h => h) (Or.inl ⟨by rfl, ?_⟩) (by assumption) ?_
          rotate_left
          · intro w9 hSw
            go_simp
            all_goals with_reducible rfl
          try simp only [Act.put, List.setIfInBounds_toArray, List.set_cons_zero, List.set_cons_succ]
          refine wpAnyH_take (i := 21) (v := ?_) (by simp only [List.getElem?_toArray, List.getElem?_cons_succ, List.getElem?_cons_zero]; rfl) (by kernel_rfl) (by kernel_rfl) (by kernel_rfl) (by exact fun _ _ _ h => h) (Or.inl ⟨by rfl, ?_⟩) (by assumption) ?_
          rotate_left
          · intro w9 hSw
            go_simp
            all_goals with_reducible rfl
          try simp only [Act.put, List.setIfInBounds_toArray, List.set_cons_zero, List.set_cons_succ]
          refine wpAnyH_ready (rs := [22]) (by kernel_rfl) (by simp) ?_
          refine AllReadyH.cons (by simp only [List.getElem?_toArray, List.getElem?_cons_succ, List.getElem?_cons_zero]; rfl) (fun K hK => ?_) AllReadyH.nil
          go_simp
          go_at_call 27
          refine (cSu.out (y : Int) X4 (hWX.out _ hk4)).mono ?_
          rintro e X5 ⟨vS, rfl, hS, hb5⟩
          have hk5 : Below X.heap.size X X5 := hk4.trans (hb5.mono hk4.size)
          obtain ⟨AS, CS, hvS⟩ := row_form hS.row
          subst hvS
          rw [hms.out]
          clear hS hb5
          refine hK.out _ _ (hk5) (fun hHeld => ?_)
          clear hK K
          try simp only [Act.put, List.setIfInBounds_toArray, List.set_cons_zero, List.set_cons_succ]
          refine wpAnyH_take (i := 23) (v := ?_) (by simp only [List.getElem?_toArray, List.getElem?_cons_succ, List.getElem?_cons_zero]; rfl) (by kernel_rfl) (by kernel_rfl) (by kernel_rfl) (by exact fun _ _ _ h => h) (Or.inl ⟨by rfl, ?_⟩) (by assumption) ?_
          rotate_left
          · intro w9 hSw
            go_simp
            all_goals with_reducible rfl
          try simp only [Act.put, List.setIfInBounds_toArray, List.set_cons_zero, List.set_cons_succ]
          refine wpAnyH_take (i := 24) (v := ?_) (by simp only [List.getElem?_toArray, List.getElem?_cons_succ, List.getElem?_cons_zero]; rfl) (by kernel_rfl) (by kernel_rfl) (by kernel_rfl) (by exact fun _ _ _ h => h) (Or.inl ⟨by rfl, ?_⟩) (by assumption) ?_
          rotate_left
          · intro w9 hSw
            go_simp
            all_goals with_reducible rfl
          try simp only [Act.put, List.setIfInBounds_toArray, List.set_cons_zero, List.set_cons_succ]
          refine wpAnyH_take (i := 25) (v := ?_) (by simp only [List.getElem?_toArray, List.getElem?_cons_succ, List.getElem?_cons_zero]; rfl) (by kernel_rfl) (by kernel_rfl) (by kernel_rfl) (by exact fun _ _ _ h => h) (Or.inl ⟨by rfl, ?_⟩) (by assumption) ?_
          rotate_left
          · intro w9 hSw
            go_simp
            all_goals with_reducible rfl
          try simp only [Act.put, List.setIfInBounds_toArray, List.set_cons_zero, List.set_cons_succ]
          refine wpAnyH_done (by kernel_rfl) ?_ _
          have hw := hide (hwX.out X5 hk5)
          go_wp2
          go_ret2
          exact ⟨by rw [hfalse.out]; rfl, hw.out⟩
    · have hr : Hid (ans = -1) := hide (by rw [hr1.out]; exact ahead1_no hl1)
      have hne1 : ((L.length : Int) != 1) = true := by simp; omega
      have hw : Hid (∀ q, Below w.heap.size w (X.drewN q)) := hide (fun q => hwX.out _ (bdn hselfX q))
      replace hl1 := hide hl1
      replace hfalse := hide (hfalse.out hr.out)
      go_upto_region 2 with (fail)
      go_quiet (fail)
      go_wp2
      go_ret2
      exact ⟨by rw [hfalse.out]; rfl, hw.out _⟩
end Go.Proofs.Ytidjaohlaljmpaa
