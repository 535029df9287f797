/- lathelaw13.long, latheref13.Has, latheref13.Latches. No condition but sizes. | latheref13.Latches. No condition but sizes. -/
import Derived.Test.YtidjaohlaljmpaaLoB
import Derived.Test.YtidjaohlaljmpaaDoH
import Derived.Test.YtidjaohlaljmpaaGrW
namespace Go.Proofs.Ytidjaohlaljmpaa
open Go.RowKit
set_option linter.unusedSimpArgs false
set_option linter.unusedVariables false

set_option maxRecDepth 100000 in
set_option maxHeartbeats 3200000 in
theorem long13_any (f : Fun) (c1 c2 : Value) (w : World) (B : Nat) (hB : B ≤ w.heap.size) (hf : RFun.rep w B [.string f.name, c1, .int .i64 f.ret, c2] f) (hsz : funSz f ≤ 2000000) :
    Calls Try.prog 12 #[f.v c1 c2] w (RetB (long7F f) w) := by
  obtain ⟨hp, hb⟩ := fun_open (RFun.later hf (Below.refl _ _) hB)
  obtain ⟨A1, k1, h1, -, -⟩ := Rp.slice1_open hp
  obtain ⟨A2, k2, h2, hm2, -⟩ := Rp.slice1_open hb
  cases h1; cases h2
  clear hp hb
  obtain ⟨n, hn⟩ : ∃ n, Hid (n = f.blocks.length) := ⟨_, hide rfl⟩
  rw [← hn.out] at hf hm2 ⊢
  obtain ⟨W, hW, hwW, hWs, hx⟩ := boxes1 w #[.string f.name, .slice A1 f.params.length k1, .int .i64 f.ret, .slice A2 n k2] 25
  have q0 : ∀ w', Below W.heap.size W w' → w'.cell? ⟨w.heap.size, 0, none⟩ = some (.string f.name) := hx 0 _ rfl
  have q1 : ∀ w', Below W.heap.size W w' → w'.cell? ⟨w.heap.size, 1, none⟩ = some (.slice A1 f.params.length k1) := hx 1 _ rfl
  have q2 : ∀ w', Below W.heap.size W w' → w'.cell? ⟨w.heap.size, 2, none⟩ = some (.int .i64 f.ret) := hx 2 _ rfl
  have q3 : ∀ w', Below W.heap.size W w' → w'.cell? ⟨w.heap.size, 3, none⟩ = some (.slice A2 n k2) := hx 3 _ rfl
  clear hx
  have hws : w.heap.size ≤ W.heap.size := by omega
  replace hWs := hide hWs
  have hself := Below.refl W.heap.size W
  have hF : Hid (∀ w', Below W.heap.size W w' → RFun.rep w' w'.heap.size [.string f.name, .slice A1 f.params.length k1, .int .i64 f.ret, .slice A2 n k2] f) := hide (fun w' h => RFun.later hf ((hwW.trans (h.mono hws)).mono hB) (Nat.le_trans hB (hwW.trans (h.mono hws)).size))
  obtain ⟨lb, hlb⟩ : ∃ lb, Hid (lb = longF f) := ⟨_, hide rfl⟩
  have cL : Hid (∀ w', Below W.heap.size W w' → Calls Try.prog 37 #[f.v (.slice A1 f.params.length k1) (.slice A2 n k2)] w' (RetB lb w')) := hide (fun w' h => by
    have := longf_any f (.slice A1 f.params.length k1) (.slice A2 n k2) w' w'.heap.size (Nat.le_refl _) (hF.out w' h) hsz
    rwa [← hlb.out] at this)
  replace hf := hide hf
  replace hwW := hide hwW
  by_cases hlt : 40 < n
  · have hgt : (n : Int) > 40 := by omega
    have hv : Hid (long7F f = true) := hide (by unfold long7F; rw [← hn.out]; simp [hlt])
    replace hlt := hide hlt
    go_enter Try.func12, Try.ntmps12
    go_wp2
    go_ret
    exact ⟨ret_bool hv.out.symm, hwW.out⟩
  · have hgt : ¬ (n : Int) > 40 := by omega
    have hv : Hid (long7F f = lb) := hide (by unfold long7F; rw [← hn.out, ← hlb.out]; simp [hlt])
    replace hlt := hide hlt
    go_enter Try.func12, Try.ntmps12
    go_wp2_with (fail)
    refine (cL.out W hself).mono ?_
    rintro e w9 ⟨rfl, hb9⟩
    have hb := hide (hwW.out.trans (hb9.mono hws))
    clear hb9
    go_wp2
    go_ret
    exact ⟨ret_bool hv.out.symm, hb.out⟩
theorem has_step {l : List Int} {i : Nat} {x t : Int} (hx : l[i]? = some x) : decide (t ∈ l.take (i + 1)) = (decide (t ∈ l.take i) || (x == t)) := by
  rw [List.take_add_one, hx, Bool.eq_iff_iff]
  simp only [Option.toList_some, decide_eq_true_eq, List.mem_append, List.mem_singleton, Bool.or_eq_true, beq_iff_eq]
  exact ⟨fun h => h.imp id Eq.symm, fun h => h.imp id Eq.symm⟩
set_option maxRecDepth 100000 in
set_option maxHeartbeats 3200000 in
theorem has13_any (A : Option Addr) (C : Nat) (l : List Int) (t : Int) (w : World) (B : Nat) (hlen : l.length ≤ 4000000) (h : OwnI w B (.slice A l.length C) l) :
    Calls Try.prog 23 #[.slice A l.length C, .int .i64 t] w fun e w' => e = .returned (.bool (decide (t ∈ l))) ∧ w' = w := by
  obtain ⟨A', C', he, hx⟩ := int_reads h
  cases he
  obtain ⟨m, hm⟩ : ∃ m, Hid (m = l.length) := ⟨_, hide rfl⟩
  rw [← hm.out] at hlen ⊢
  have hself := hide (Below.refl w.heap.size w)
  have h0 : Hid (decide (t ∈ l.take 0) = false) := hide (by simp)
  replace hx := hide hx
  replace h := hide h
  go_enter Try.func23, Try.ntmps23
  go_wp2
  go_loopw [5] (fun s wr => ∃ i : Nat, s = .int .i64 i ∧ i ≤ m ∧ Hid (decide (t ∈ l.take i) = false) ∧ wr = w) (fun s _ => m - (intOf s).toNat)
  case atStart => exact ⟨0, rfl, Nat.zero_le _, h0, rfl⟩
  case round =>
    clear h0
    obtain ⟨i, rfl, hi, hno, rfl⟩ := hrel
    by_cases hlt : i < m
    · have hii : (i : Int) < (m : Int) := by omega
      obtain ⟨x, hxi⟩ := get_ex (l := l) (k := i) (by rw [← hm.out]; exact hlt)
      obtain ⟨g, rfl, rx⟩ := hx.out (by rw [← hm.out]; omega)
      have rx0 := rx i _ hxi.out _ hself.out
      clear rx
      have hst := has_step (t := t) hxi.out
      rw [hno.out, Bool.false_or] at hst
      by_cases hxt : x = t
      · have h1 : (x == t) = true := by simp [hxt]
        have hr : Hid (decide (t ∈ l) = true) := hide (decide_eq_true (hxt ▸ List.mem_of_getElem? hxi.out))
        replace hst := hide hst
        replace hxt := hide hxt
        go_wp2
        go_ret
        exact ⟨by rw [hr.out]; rfl, rfl⟩
      · have h1 : (x == t) = false := by simp [hxt]
        rw [h1] at hst
        replace hst := hide hst
        replace hxt := hide hxt
        go_wp2
        go_roundw
        case rel => exact ⟨i + 1, by go_num, hlt, hst, by trivial⟩
        case measure => simp [intOf]; omega
    · obtain rfl : i = m := by omega
      have hr : Hid (decide (t ∈ l) = false) := hide (by
        have := hno.out
        rwa [hm.out, List.take_length] at this)
      go_wp2
      go_ret
      exact ⟨by rw [hr.out]; rfl, rfl⟩
end Go.Proofs.Ytidjaohlaljmpaa

namespace Go.Proofs.Ytidjaohlaljmpaa
open Go.RowKit
set_option linter.unusedSimpArgs false
set_option linter.unusedVariables false

noncomputable def latI (sc : Int → List Int) (o : List Int) (P : List (List Int)) (n : Nat) (h : Int) : List Int := if 0 ≤ h ∧ h < n then latF sc o P h.toNat else []
set_option maxRecDepth 100000 in
set_option maxHeartbeats 12800000 in
theorem rlatches_any (f : Fun) (h : Int) (c1 c2 : Value) (w : World) (B : Nat) (hB : B ≤ w.heap.size) (hf : RFun.rep w B [.string f.name, c1, .int .i64 f.ret, c2] f) (hs : Small f) :
    Calls Try.prog 41 #[f.v c1 c2, .int .i64 h] w (SuccPost (latI (succsF f.blocks) (orderF f.blocks) (predsL (succsF f.blocks) f.blocks.length) f.blocks.length h) w) := by
  obtain ⟨hp, hb⟩ := fun_open (RFun.later hf (Below.refl _ _) hB)
  obtain ⟨A1, k1, h1, -, -⟩ := Rp.slice1_open hp
  obtain ⟨A2, k2, h2, hm2, -⟩ := Rp.slice1_open hb
  cases h1; cases h2
  clear hp hb
  obtain ⟨n, hn⟩ : ∃ n, Hid (n = f.blocks.length) := ⟨_, hide rfl⟩
  have hnle : n ≤ 2000000 := by rw [hn.out]; exact hs.blocks
  obtain ⟨O, hO⟩ : ∃ O, Hid (O = orderF f.blocks) := ⟨_, hide rfl⟩
  obtain ⟨sc, hsc⟩ : ∃ sc, Hid (sc = succsF f.blocks) := ⟨_, hide rfl⟩
  obtain ⟨R, hR⟩ : ∃ R, Hid (R = reachF f.blocks) := ⟨_, hide rfl⟩
  obtain ⟨P, hP⟩ : ∃ P, Hid (P = predsL sc n) := ⟨_, hide rfl⟩
  have hPl : P.length = n := by rw [hP.out, predsL_len]
  have hRl : R.length = n := by rw [hR.out, hn.out, reach_len]
  have hsok : Hid (∀ b, SuccOk n (sc b)) := hide (fun b => by rw [hsc.out, hn.out]; exact succsF_ok _ _)
  have hok : Hid (OrderOk n sc O) := hide (by rw [hO.out, hn.out, hsc.out]; exact order_ok _)
  have hol : O.length ≤ n := by rw [hO.out, hn.out]; exact order_len _
  have hRat : Hid (∀ k : Nat, k < n → R[k]? = some (decide ((k : Int) ∈ O))) := hide (fun k hk => by rw [hR.out, hO.out]; exact reach_at _ _ (by rw [← hn.out]; exact hk))
  rw [← hn.out, ← hO.out, ← hsc.out]
  rw [← hn.out] at hf hm2
  obtain ⟨W, hW, hwW, hWs, hx⟩ := boxes1 w #[.string f.name, .slice A1 f.params.length k1, .int .i64 f.ret, .slice A2 n k2] 25
  have q0 : ∀ w', Below W.heap.size W w' → w'.cell? ⟨w.heap.size, 0, none⟩ = some (.string f.name) := hx 0 _ rfl
  have q1 : ∀ w', Below W.heap.size W w' → w'.cell? ⟨w.heap.size, 1, none⟩ = some (.slice A1 f.params.length k1) := hx 1 _ rfl
  have q2 : ∀ w', Below W.heap.size W w' → w'.cell? ⟨w.heap.size, 2, none⟩ = some (.int .i64 f.ret) := hx 2 _ rfl
  have q3 : ∀ w', Below W.heap.size W w' → w'.cell? ⟨w.heap.size, 3, none⟩ = some (.slice A2 n k2) := hx 3 _ rfl
  clear hx
  have hws : w.heap.size ≤ W.heap.size := by omega
  replace hWs := hide hWs
  have hself := Below.refl W.heap.size W
  have hF : Hid (∀ w', Below W.heap.size W w' → RFun.rep w' w'.heap.size [.string f.name, .slice A1 f.params.length k1, .int .i64 f.ret, .slice A2 n k2] f) := hide (fun w' h => RFun.later hf ((hwW.trans (h.mono hws)).mono hB) (Nat.le_trans hB (hwW.trans (h.mono hws)).size))
  have cT : Hid (∀ w', Below W.heap.size W w' → Calls Try.prog 65 #[f.v (.slice A1 f.params.length k1) (.slice A2 n k2)] w' (TablePost sc O n w')) := hide (fun w' h => by
    have := table_any f (.slice A1 f.params.length k1) (.slice A2 n k2) w' w'.heap.size (Nat.le_refl _) (hF.out w' h) hs
    rwa [← hn.out, ← hO.out, ← hsc.out] at this)
  have cP : Hid (∀ w', Below W.heap.size W w' → Calls Try.prog 59 #[f.v (.slice A1 f.params.length k1) (.slice A2 n k2)] w' (PredPost n P w')) := hide (fun w' h => by
    have := rpreds_any f (.slice A1 f.params.length k1) (.slice A2 n k2) w' w'.heap.size (Nat.le_refl _) (hF.out w' h) hs
    rwa [← hn.out, ← hsc.out, ← hP.out] at this)
  rw [← hP.out]
  replace hs := hide hs
  replace hf := hide hf
  replace hwW := hide hwW
  obtain ⟨i0, hi0, hz0, hz1, hz2⟩ := cinfo_parts cinfo_int
  replace hi0 := hide hi0
  replace hz0 := hide hz0
  replace hz1 := hide hz1
  replace hz2 := hide hz2
  by_cases hin : 0 ≤ h ∧ h < n
  · obtain ⟨a, rfl⟩ := Int.eq_ofNat_of_zero_le hin.1
    have hlta : a < n := by omega
    have hai : ¬ (a : Int) ≥ (n : Int) := by omega
    have ha0 : ¬ (a : Int) < 0 := by omega
    have hres : Hid (latI sc O P n (a : Int) = latF sc O P a) := hide (by unfold latI; rw [if_pos hin]; rfl)
    rw [hres.out]
    replace hin := hide hin
    replace hW := hide hW
    go_enter Try.func41, Try.ntmps41
    go_upto_region 1 with (fail)
    rw [hW.out]
    clear hW
    go_wp2_with (fail)
    refine (cP.out _ hself).mono ?_
    rintro e X1 ⟨gp, csp, rfl, hL, hb2⟩
    have hsX1 := hb2.size
    go_wp2_with (fail)
    refine (cT.out _ hb2).mono ?_
    rintro e X ⟨gt, Lt, rfl, hT4, hb3⟩
    have hbX := hb2.trans (hb3.mono hsX1)
    have hwX : Hid (∀ w', Below X.heap.size X w' → Below w.heap.size w w') := hide (fun w' h => hwW.out.trans ((hbX.trans (h.mono hbX.size)).mono hws))
    have hwXs : Hid (w.heap.size ≤ X.heap.size) := hide (Nat.le_trans hws hbX.size)
    have hTr := hide hT4.reads
    have hpr := hide (rows_reads (hL.below hb3) hPl)
    have hPm : Hid (∀ (k : Nat) p, P[k]? = some p → p.length ≤ 2000000 ∧ ∀ x, x ∈ p ↔ (0 ≤ x ∧ x < n ∧ (k : Int) ∈ sc x)) := hide (fun k p hk => by
      rw [hP.out] at hk
      have hm := fun x => predsL_mem hk x
      refine ⟨?_, hm⟩
      have := range_len n p ((predsL_sorted hk).imp fun h => by omega) (fun x hx => ⟨((hm x).1 hx).1, ((hm x).1 hx).2.1⟩)
      omega)
    clear hL hT4 hb2 hb3 hbX hsX1 cP cT q0 q1 q2 q3 hself
    obtain ⟨T, hTe⟩ : ∃ T : Nat → Nat → Bool, Hid (T = fun (a b : Nat) => domB sc O a b) := ⟨_, hide rfl⟩
    have hrd : Hid (∃ ga, (∀ w', Below X.heap.size X w' → w'.cell? ⟨gt, a, none⟩ = some (.slice (some ⟨ga, 0, none⟩) n n)) ∧ ∀ b : Nat, b < n → ∀ w', Below X.heap.size X w' → w'.cell? ⟨ga, b, none⟩ = some (.bool (T a b))) := hide (by rw [hTe.out]; exact hTr.out a hlta)
    obtain ⟨ga, ra, rab⟩ := hrd.out
    replace ra := hide ra
    replace rab := hide rab
    clear hTr hrd
    obtain ⟨p, hp⟩ := get_ex (l := P) (k := a) (by omega)
    obtain ⟨Ap, Cp, rp, rpx⟩ := hpr.out a p hp.out
    obtain ⟨hpl, hpm⟩ := hPm.out a p hp.out
    have hPe := hide (latP_end (sc := sc) (o := O) hp.out)
    replace hpm := hide hpm
    replace rpx := hide rpx
    obtain ⟨m, hm⟩ : ∃ m, Hid (m = p.length) := ⟨_, hide rfl⟩
    rw [← hm.out] at rp hpl hPe
    replace rp := hide rp
    have hst : Hid (OwnI X X.heap.size (.slice none 0 0) (latP sc O p a 0)) := hide (by simp only [latP, List.take_zero, List.filter_nil]; exact OwnI.nil_)
    have hselfX := Below.refl X.heap.size X
    go_wp2
    go_loopw [5, 8] (fun s5 j wr => ∃ (i : Nat) (A : Option Addr) (C : Nat) (q : List Int), j = .int .i64 i ∧ s5 = .slice A q.length C ∧ i ≤ m ∧ Hid (q = latP sc O p a i) ∧ Hid (OwnI wr X.heap.size (.slice A q.length C) q) ∧ Below X.heap.size X wr) (fun _ j _ => m - (intOf j).toNat)
    case atStart => exact ⟨0, none, 0, [], rfl, rfl, Nat.zero_le _, hide (by simp [latP]), hide (by simpa [latP] using hst.out), hselfX⟩
    case round =>
      clear hst hselfX
      rename World => V
      obtain ⟨i, Ar, kr, r, rfl, rfl, hi, hre, hrow, hbel⟩ := hrel
      have rp0 := rp.out V (hbel)
      by_cases hlti : i < m
      · have hii : (i : Int) < (m : Int) := by omega
        obtain ⟨x0, hx0'⟩ := get_ex (l := p) (k := i) (by rw [← hm.out]; exact hlti)
        obtain ⟨g5, rfl, rx⟩ := rpx.out (by rw [← hm.out]; omega)
        have rx0 := rx i _ hx0'.out V hbel
        obtain ⟨hm1', hm2'', -⟩ := (hpm.out x0).1 (List.mem_of_getElem? hx0'.out)
        obtain ⟨y0, rfl⟩ := Int.eq_ofNat_of_zero_le hm1'
        have hy0 : y0 < n := by omega
        have ra0 := ra.out V hbel
        have rab0 := rab.out y0 hy0 V hbel
        have rp9 := rp.out
        have rx9 := rx i _ hx0'.out
        clear rx
        have hstep := latP_step (sc := sc) (o := O) (h := a) hx0'.out
        rw [← hre.out] at hstep
        obtain ⟨d, hd⟩ : ∃ d, Hid (T a y0 = d) := ⟨_, hide rfl⟩
        have hd2 : domB sc O a y0 = d := by rw [← hd.out, hTe.out]
        rw [hd2] at hstep
        rw [hd.out] at rab0
        replace hd2 := hide hd2
        cases d with
        | true =>
          have hrl : r.length ≤ 2000000 := by have := latP_len (sc := sc) (o := O) (p := p) (h := a) (i := i); rw [hre.out]; have := hm.out; omega
          have hbI : Hid (I64 y0) := hide (i64_mk (by omega) (by omega))
          have hnx : Hid (r ++ [(y0 : Int)] = latP sc O p a (i + 1)) := hide (by rw [hstep, if_pos rfl])
          replace hstep := hide hstep
          go_upto_region 9 with (fail)
          go_quiet (fail)
          have hbel2 := bdn hbel nq
          have hrow2 := hide (hrow.out.kept (w' := V.drewN nq) fun k _ _ => rfl)
          have hbs := hbel2.size
          clear hrow rp0 ra0 rab0 rx0
          generalize V.drewN nq = V2 at hbel2 hrow2 hbs ⊢
          have rp0 := rp9 V2 hbel2
          have rx0 := rx9 V2 hbel2
          clear hbel
          go_wp2_with (first
            | (at_builtin
               refine wpList_append_own _ rfl (.tmp 45) (.tmp 53) _ rfl X.heap.size 3 i0 _ 1 8 Try.underlying22 hi0.out hz0.out hz1.out hz2.out rfl (by omega) (.slice Ar r.length kr) _ _ rfl (hrow2.out.row.alloc _) ⟨V2.heap.size, 0, none⟩ 1 1 [.int .i64 y0] rfl rfl ?c1 ?c2 ?c3 ?c4 ?c5 ?_
               case c1 => exact World.news_of_block (cs := #[.int .i64 y0]) (t := 3) (fr := (0, 0)) (heap_alloc_new V2 _)
               case c2 => simp [Value.oneCell']
               case c3 => unfold maxLen; omega
               case c4 => omega
               case c5 => first | (simp; omega) | simp | omega
               intro v1 w1 hown1 hg1 _
               have hbw1 : Below X.heap.size X w1 := (hbel2.alloc hbs _).grown hg1 (by simp; omega) (fun k hk => (row_lt hrow2.out.row hk).1)
               obtain ⟨A8, C8, hv8⟩ := row_form (OwnI.snoc hrow2.out.ok hbI.out hown1).row
               have hL := hide (OwnI.snoc hrow2.out.ok hbI.out hown1)
               subst hv8
               replace hown1 := hide hown1
               replace hg1 := hide hg1))
          go_roundw
          case rel => exact ⟨i + 1, A8, C8, r ++ [(y0 : Int)], by go_num, by simp, hlti, hnx, hL, hbw1⟩
          case measure => simp [intOf]; omega
        | false =>
          have hnx : Hid (r = latP sc O p a (i + 1)) := hide (by rw [hstep]; simp)
          replace hstep := hide hstep
          go_upto_region 9 with (fail)
          go_quiet (fail)
          have hbel2 := bdn hbel nq
          have hrow2 := hide (hrow.out.kept (w' := V.drewN nq) fun k _ _ => rfl)
          go_wp2
          go_roundw
          case rel => exact ⟨i + 1, Ar, kr, r, by go_num, rfl, hlti, hnx, hrow2, hbel2⟩
          case measure => simp [intOf]; omega
      · obtain rfl : i = m := by omega
        have hfin : Hid (OwnI V w.heap.size (.slice Ar r.length kr) (latF sc O P a)) := hide (by rw [← hPe.out, ← hre.out]; exact hrow.out.mono hwXs.out)
        have hw := hide (hwX.out V hbel)
        go_wp2
        go_ret
        exact ⟨_, rfl, hfin.out, hw.out⟩
  · have hres : Hid (latI sc O P n h = []) := hide (by unfold latI; rw [if_neg hin])
    rw [hres.out]
    have hfin : Hid (OwnI W w.heap.size (.slice none 0 0) []) := hide OwnI.nil_
    have hout : h < 0 ∨ ¬ h < 0 ∧ h ≥ (n : Int) := by omega
    replace hin := hide hin
    rcases hout with h0 | ⟨h0, h1⟩
    · go_enter Try.func41, Try.ntmps41
      go_wp2
      go_ret
      exact ⟨_, rfl, hfin.out, hwW.out⟩
    · go_enter Try.func41, Try.ntmps41
      go_wp2
      go_ret
      exact ⟨_, rfl, hfin.out, hwW.out⟩
end Go.Proofs.Ytidjaohlaljmpaa
