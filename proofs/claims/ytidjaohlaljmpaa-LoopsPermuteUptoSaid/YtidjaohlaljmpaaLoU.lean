/- LoopsBack: every way back to a block that dominates where it comes from is one of a loop's latches, and a header dominates all of its loop. -/
import Derived.Test.YtidjaohlaljmpaaLoS
import Derived.Test.YtidjaohlaljmpaaGrY
import Derived.Test.YtidjaohlaljmpaaDoG
namespace Go.Proofs.Ytidjaohlaljmpaa
open Go.RowKit
set_option linter.unusedSimpArgs false
set_option linter.unusedVariables false

def latN (ls : List Lp) : Nat := (ls.map fun x => x.latch.length).sum
noncomputable def latPre (sc : Int → List Int) (o : List Int) (P : List (List Int)) (a : Nat) : Nat := ((List.range a).map fun k => (latF sc o P k).length).sum
section
variable {sc : Int → List Int} {o lat : List Int} {P : List (List Int)} {n a i : Nat} {h b : Int}
theorem latPre_step : latPre sc o P (a + 1) = latPre sc o P a + (latF sc o P a).length := by
  unfold latPre
  rw [List.range_succ, List.map_append, List.sum_append]
  simp
theorem lat_heads : ((headsS sc o P a).map fun k => (latF sc o P k).length).sum = latPre sc o P a := by
  induction a with
  | zero => rfl
  | succ a ih =>
    rw [headsS_step, latPre_step, List.map_append, List.sum_append, ih]
    by_cases e : isH sc o P a = true
    · simp [e]
    · have h0 : latF sc o P a = [] := Classical.byContradiction fun h => e (isH_true h)
      simp [e, h0]
theorem lat_total : latN (loopsS sc o P n) = latPre sc o P n := by
  unfold latN loopsS
  rw [List.map_map, ← lat_heads]
  rfl
theorem latPre_le (hl : ∀ k, k < n → (latF sc o P k).length ≤ n) : ∀ a, a ≤ n → latPre sc o P a ≤ a * n
  | 0, _ => by simp [latPre]
  | a + 1, ha => by
    rw [latPre_step, Nat.add_mul]
    have := latPre_le hl a (by omega)
    have := hl a (by omega)
    omega
theorem latN_take {ls : List Lp} {x : Lp} (hx : ls[i]? = some x) : latN (ls.take (i + 1)) = latN (ls.take i) + x.latch.length := by
  unfold latN
  rw [List.take_add_one, hx]
  simp
theorem latN_mono {ls : List Lp} : latN (ls.take i) ≤ latN ls := by
  have h : latN ls = latN (ls.take i) + latN (ls.drop i) := by
    unfold latN
    rw [← List.sum_append, ← List.map_append, List.take_append_drop]
  omega
/-- a header dominates its loop -/
theorem lp_dom (hh : h ∈ o) (hl : ∀ x, x ∈ lat → domB sc o h x = true) (g : LpIn sc o lat h b) : domB sc o h b = true := by
  induction g with
  | head => exact domB_iff.2 ⟨hh, hh, fun hr => by
      cases hr with
      | start h0 => exact h0 rfl
      | step _ _ hne => exact hne rfl⟩
  | latch hx => exact hl _ hx
  | back ho hs hne _ ih => exact domB_iff.2 ⟨hh, ho, fun hr => (domB_iff.1 ih).2.2 (.step hr hs hne)⟩
end
/-- what is told of a loop of the list -/
structure LpOk (sc : Int → List Int) (o : List Int) (P : List (List Int)) (n : Nat) (x : Lp) : Prop where
  head : ∃ k : Nat, k < n ∧ x.head = k
  size : x.blocks.length ≤ n ∧ x.latch.length ≤ n ∧ x.exits.length ≤ n
  dom : ∀ b, b ∈ x.blocks → domB sc o x.head b = true
  latch : ∀ b, b ∈ x.latch → b ∈ x.blocks ∧ x.head ∈ sc b
  exits : ∀ t, t ∈ x.exits → t ∉ x.blocks
theorem lp_ok {sc : Int → List Int} {o : List Int} {n : Nat} (ho : ∀ x, x ∈ o → 0 ≤ x ∧ x < n) (hl : ∀ a, a < n → (latF sc o (predsL sc n) a).length ≤ n) : ∀ x, x ∈ loopsS sc o (predsL sc n) n → LpOk sc o (predsL sc n) n x := fun x hx => by
  unfold loopsS at hx
  obtain ⟨h, hh, rfl⟩ := List.mem_map.1 hx
  obtain ⟨hhn, hne⟩ := headsS_mem.1 hh
  have hlat : ∀ x, x ∈ latF sc o (predsL sc n) h → domB sc o h x = true := fun x hx => by
    unfold latF at hx
    exact (List.mem_filter.1 hx).2
  obtain ⟨y, hy⟩ := List.exists_mem_of_ne_nil _ hne
  have hho : (h : Int) ∈ o := (domB_iff.1 (hlat y hy)).1
  refine ⟨⟨h, hhn, rfl⟩, ⟨lpL_len, hl h hhn, exL_len⟩, fun b hb => ?_, fun b hb => ⟨?_, ?_⟩, fun t ht => (exL_mem.1 ht).2.2.1⟩
  · exact lp_dom hho hlat (lpL_mem.1 hb).2.2
  · have hb1 := (domB_iff.1 (hlat b hb)).2.1
    exact lpL_mem.2 ⟨(ho b hb1).1, (ho b hb1).2, .latch hb⟩
  · have hb' : b ∈ (((predsL sc n)[h]?).getD []) := by
      have h3 : b ∈ latF sc o (predsL sc n) h := hb
      unfold latF at h3
      exact (List.mem_filter.1 h3).1
    obtain ⟨p, hp⟩ := get_ex (l := predsL sc n) (k := h) (by rw [predsL_len]; exact hhn)
    rw [hp.out] at hb'
    exact ((predsL_mem hp.out b).1 hb').2.2
set_option maxRecDepth 100000 in
set_option maxHeartbeats 12800000 in
theorem law_loops_back (f : Fun) (c1 c2 : Value) (w : World) (hf : RFun.rep w w.heap.size [.string f.name, c1, .int .i64 f.ret, c2] f) (hs : Small f) (hsz : funSz f ≤ 2000000) :
    Calls Try.prog 6 #[f.v c1 c2] w (LawPost w) := by
  obtain ⟨hp, hb⟩ := fun_open (RFun.later hf (Below.refl _ _) (Nat.le_refl _))
  obtain ⟨A1, k1, h1, -, -⟩ := Rp.slice1_open hp
  obtain ⟨A2, k2, h2, hm2, -⟩ := Rp.slice1_open hb
  cases h1; cases h2
  clear hp hb
  obtain ⟨n, hn⟩ : ∃ n, Hid (n = f.blocks.length) := ⟨_, hide rfl⟩
  have hnle : n ≤ 2000000 := by rw [hn.out]; exact hs.blocks
  obtain ⟨O, hO⟩ : ∃ O, Hid (O = orderF f.blocks) := ⟨_, hide rfl⟩
  obtain ⟨sc, hsc⟩ : ∃ sc, Hid (sc = succsF f.blocks) := ⟨_, hide rfl⟩
  obtain ⟨R, hR⟩ : ∃ R, Hid (R = reachF f.blocks) := ⟨_, hide rfl⟩
  obtain ⟨P, hP⟩ : ∃ P, Hid (P = predsL sc n) := ⟨_, hide rfl⟩
  have hPl : P.length = n := by rw [hP.out, predsL_len]
  have hRl : R.length = n := by rw [hR.out, hn.out, reach_len]
  have hsok : Hid (∀ b, SuccOk n (sc b)) := hide (fun b => by rw [hsc.out, hn.out]; exact succsF_ok _ _)
  have hok : Hid (OrderOk n sc O) := hide (by rw [hO.out, hn.out, hsc.out]; exact order_ok _)
  have hol : O.length ≤ n := by rw [hO.out, hn.out]; exact order_len _
  have hRat : Hid (∀ k : Nat, k < n → R[k]? = some (decide ((k : Int) ∈ O))) := hide (fun k hk => by rw [hR.out, hO.out]; exact reach_at _ _ (by rw [← hn.out]; exact hk))
  rw [← hn.out]
  rw [← hn.out] at hf hm2
  obtain ⟨W, hW, hwW, hWs, hx⟩ := boxes1 w #[.string f.name, .slice A1 f.params.length k1, .int .i64 f.ret, .slice A2 n k2] 25
  have q0 : ∀ w', Below W.heap.size W w' → w'.cell? ⟨w.heap.size, 0, none⟩ = some (.string f.name) := hx 0 _ rfl
  have q1 : ∀ w', Below W.heap.size W w' → w'.cell? ⟨w.heap.size, 1, none⟩ = some (.slice A1 f.params.length k1) := hx 1 _ rfl
  have q2 : ∀ w', Below W.heap.size W w' → w'.cell? ⟨w.heap.size, 2, none⟩ = some (.int .i64 f.ret) := hx 2 _ rfl
  have q3 : ∀ w', Below W.heap.size W w' → w'.cell? ⟨w.heap.size, 3, none⟩ = some (.slice A2 n k2) := hx 3 _ rfl
  clear hx
  have hws : w.heap.size ≤ W.heap.size := by omega
  replace hWs := hide hWs
  have hself := Below.refl W.heap.size W
  have hF : Hid (∀ w', Below W.heap.size W w' → RFun.rep w' w'.heap.size [.string f.name, .slice A1 f.params.length k1, .int .i64 f.ret, .slice A2 n k2] f) := hide (fun w' h => RFun.later hf (hwW.trans (h.mono hws)) (hwW.trans (h.mono hws)).size)
  have cR : Hid (∀ w', Below W.heap.size W w' → Calls Try.prog 24 #[f.v (.slice A1 f.params.length k1) (.slice A2 n k2)] w' (ReachPost n R w')) := hide (fun w' h => by
    have := reach_any f (.slice A1 f.params.length k1) (.slice A2 n k2) w' w'.heap.size (Nat.le_refl _) (hF.out w' h) hs
    rwa [← hn.out, ← hR.out] at this)
  have cP : Hid (∀ w', Below W.heap.size W w' → Calls Try.prog 25 #[f.v (.slice A1 f.params.length k1) (.slice A2 n k2)] w' (PredPost n P w')) := hide (fun w' h => by
    have := preds_any f (.slice A1 f.params.length k1) (.slice A2 n k2) w' w'.heap.size (Nat.le_refl _) (hF.out w' h) hs
    rwa [← hn.out, ← hsc.out, ← hP.out] at this)
  have cD : Hid (∀ (a b : Int) w', Below W.heap.size W w' → Calls Try.prog 26 #[f.v (.slice A1 f.params.length k1) (.slice A2 n k2), .int .i64 a, .int .i64 b] w' (RetB (domB sc O a b) w')) := hide (fun (a b : Int) w' h => by
    have := dominates_bb f a b (.slice A1 f.params.length k1) (.slice A2 n k2) w' w'.heap.size (Nat.le_refl _) (hF.out w' h) hs
    rwa [← hO.out, ← hsc.out] at this)
  obtain ⟨lb, hlb⟩ : ∃ lb, Hid (lb = long7F f) := ⟨_, hide rfl⟩
  have cL : Hid (∀ w', Below W.heap.size W w' → Calls Try.prog 12 #[f.v (.slice A1 f.params.length k1) (.slice A2 n k2)] w' (RetB lb w')) := hide (fun w' h => by
    have := long13_any f (.slice A1 f.params.length k1) (.slice A2 n k2) w' w'.heap.size (Nat.le_refl _) (hF.out w' h) hsz
    rwa [← hlb.out] at this)
  have cF : Hid (∀ w', Below W.heap.size W w' → Calls Try.prog 14 #[f.v (.slice A1 f.params.length k1) (.slice A2 n k2)] w' (LoopPost (loopsS sc O P n) w')) := hide (fun w' h => by
    have := lfind_any f (.slice A1 f.params.length k1) (.slice A2 n k2) w' w'.heap.size (Nat.le_refl _) (hF.out w' h) hs
    rwa [← hn.out, ← hO.out, ← hsc.out, ← hP.out] at this)
  have cSu : Hid (∀ (b : Int) w', Below W.heap.size W w' → Calls Try.prog 27 #[f.v (.slice A1 f.params.length k1) (.slice A2 n k2), .int .i64 b] w' (SuccPost (sc b) w')) := hide (fun b w' hb => by
    have := succs_any f b (.slice A1 f.params.length k1) (.slice A2 n k2) w' w'.heap.size (Nat.le_refl _) (hF.out w' hb) hs
    rwa [← hsc.out] at this)
  replace hs := hide hs
  replace hf := hide hf
  replace hwW := hide hwW
  replace hW := hide hW
  go_enter Try.func6, Try.ntmps6
  go_upto_region 1 with (fail)
  rw [hW.out]
  go_wp2_with (fail)
  refine (lives13_any _).mono ?_
  rintro e w1 ⟨rfl, hb1⟩
  go_wp2_with (fail)
  refine (cL.out _ hb1).mono ?_
  rintro e w2 ⟨rfl, hb2⟩
  have hbel2 := hb1.trans (hb2.mono hb1.size)
  clear hb1 hb2 cL
  cases lb with
  | true =>
    go_wp2
    go_ret
    exact ⟨rfl, hwW.out.trans (hbel2.mono hws)⟩
  | false =>
    have hn40 : n ≤ 40 := by rw [hn.out]; exact long7F_le hlb.out.symm
    have hll : Hid (∀ a, a < n → (latF sc O P a).length ≤ n) := hide (fun a ha => by
      obtain ⟨p, hp⟩ := get_ex (l := P) (k := a) (by omega)
      rw [← latP_end hp.out]
      refine Nat.le_trans latP_len ?_
      have hp2 := hp.out
      rw [hP.out] at hp2
      exact range_len n p ((predsL_sorted hp2).imp fun h => by omega) (fun x hx => ⟨((predsL_mem hp2 x).1 hx).1, ((predsL_mem hp2 x).1 hx).2.1⟩))
    obtain ⟨LL, hLL⟩ : ∃ LL, Hid (LL = loopsS sc O P n) := ⟨_, hide rfl⟩
    have hLo : Hid (∀ x, x ∈ LL → LpOk sc O P n x) := hide (by
      rw [hLL.out]
      have h := hll.out
      rw [hP.out] at h ⊢
      exact lp_ok hok.out.bound h)
    obtain ⟨tot, htot⟩ : ∃ tot, Hid (tot = latN LL) := ⟨_, hide rfl⟩
    have htp : Hid (tot = latPre sc O P n) := hide (by rw [htot.out, hLL.out, lat_total])
    have ht : tot ≤ 1600 := by
      rw [htp.out]
      have h1 := latPre_le hll.out n (Nat.le_refl _)
      have h2 := Nat.mul_le_mul hn40 hn40
      omega
    rw [← hLL.out] at cF
    obtain ⟨NL, hNL⟩ : ∃ NL, Hid (LL.length = NL) := ⟨_, hide rfl⟩
    have hNLn : NL ≤ n := by rw [← hNL.out, hLL.out]; exact loopsS_len
    go_wp2_with (fail)
    refine (cF.out _ hbel2).mono ?_
    rintro e w3 ⟨va, es, rfl, hA, hb3⟩
    obtain ⟨Aa, Ca, rfl⟩ := row_form hA.row
    rw [hNL.out] at hA ⊢
    have hbel3 := hbel2.trans (hb3.mono hbel2.size)
    have hs3 := hbel3.size
    have z0 : ∀ w', Below w3.heap.size w3 w' → w'.cell? ⟨w.heap.size, 0, none⟩ = some (.string f.name) := fun w' h => q0 w' (hbel3.trans (h.mono hs3))
    have z1 : ∀ w', Below w3.heap.size w3 w' → w'.cell? ⟨w.heap.size, 1, none⟩ = some (.slice A1 f.params.length k1) := fun w' h => q1 w' (hbel3.trans (h.mono hs3))
    have z2 : ∀ w', Below w3.heap.size w3 w' → w'.cell? ⟨w.heap.size, 2, none⟩ = some (.int .i64 f.ret) := fun w' h => q2 w' (hbel3.trans (h.mono hs3))
    have z3 : ∀ w', Below w3.heap.size w3 w' → w'.cell? ⟨w.heap.size, 3, none⟩ = some (.slice A2 n k2) := fun w' h => q3 w' (hbel3.trans (h.mono hs3))
    have hW3 : Hid (∀ w', Below w3.heap.size w3 w' → Below W.heap.size W w') := hide (fun w' h => hbel3.trans (h.mono hs3))
    have hself3 := Below.refl w3.heap.size w3
    have hA3 := hide hA
    clear hA hb3 hbel2 q0 q1 q2 q3 hself hbel3 cF
    go_upto_region 6 with (fail)
    go_region_held3 (fun w' => Below w3.heap.size w3 w') (first | (with_reducible assumption) | exact hself3.drew)
      (first
        | (go_at_call 24; refine (cR.out _ (hW3.out _ hself3.drew)).mono ?_; rintro e X1 ⟨gr, rfl, hR4, hb4⟩; have hk1 : Below w3.heap.size w3 X1 := hself3.drew.trans (hb4.mono (Nat.le_refl _)); replace hR4 := hide hR4; clear hb4)
        | (go_at_call 25; refine (cP.out _ (hW3.out _ hk1)).mono ?_; rintro e X ⟨gp, csp, rfl, hL4, hb4⟩; have hkX : Below w3.heap.size w3 X := hk1.trans (hb4.mono hk1.size); have hpr := hide (rows_reads hL4 hPl); clear hb4 hL4))
    have hsX := hkX.size
    have hA := hide (hA3.out.below hkX)
    have p0 : ∀ w', Below X.heap.size X w' → w'.cell? ⟨w.heap.size, 0, none⟩ = some (.string f.name) := fun w' h => z0 w' (hkX.trans (h.mono hsX))
    have p1 : ∀ w', Below X.heap.size X w' → w'.cell? ⟨w.heap.size, 1, none⟩ = some (.slice A1 f.params.length k1) := fun w' h => z1 w' (hkX.trans (h.mono hsX))
    have p2 : ∀ w', Below X.heap.size X w' → w'.cell? ⟨w.heap.size, 2, none⟩ = some (.int .i64 f.ret) := fun w' h => z2 w' (hkX.trans (h.mono hsX))
    have p3 : ∀ w', Below X.heap.size X w' → w'.cell? ⟨w.heap.size, 3, none⟩ = some (.slice A2 n k2) := fun w' h => z3 w' (hkX.trans (h.mono hsX))
    have hWX : Hid (∀ w', Below X.heap.size X w' → Below W.heap.size W w') := hide (fun w' h => hW3.out _ (hkX.trans (h.mono hsX)))
    have hPm : Hid (∀ (k : Nat) p, P[k]? = some p → p.length ≤ n ∧ ∀ x, x ∈ p → 0 ≤ x ∧ x < n) := hide (fun k p hk => by
      rw [hP.out] at hk
      have hm := fun x => predsL_mem hk x
      exact ⟨range_len n p ((predsL_sorted hk).imp fun h => by omega) (fun x hx => ⟨((hm x).1 hx).1, ((hm x).1 hx).2.1⟩), fun x hx => ⟨((hm x).1 hx).1, ((hm x).1 hx).2.1⟩⟩)
    have hselfX := Below.refl X.heap.size X
    have h00 : Hid (latN (LL.take 0) = 0) := hide rfl
    clear z0 z1 z2 z3 hself3 hA3 hkX hk1 cR cP
    go_wp2
    go_loopw [6, 30] (fun s6 s wr => ∃ i : Nat, s = .int .i64 i ∧ i ≤ NL ∧ s6 = .int .i64 (latN (LL.take i) : Int) ∧ Below X.heap.size X wr) (fun _ s _ => NL - (intOf s).toNat)
    case atStart => exact ⟨0, rfl, Nat.zero_le _, by rw [h00.out]; rfl, hselfX⟩
    case round =>
      clear hselfX
      rename World => V
      obtain ⟨i, rfl, hi, rfl, hbel⟩ := hrel
      have hVs := hbel.size
      by_cases hlti : i < NL
      · have hii : (i : Int) < (NL : Int) := by omega
        obtain ⟨x, hx⟩ := get_ex (l := LL) (k := i) (by rw [hNL.out]; exact hlti)
        have hxo := hLo.out x (List.mem_of_getElem? hx.out)
        obtain ⟨⟨k0, hk0, hxh⟩, ⟨hz1, hz2, hz3⟩, hxd, hxl, hxe⟩ := hxo
        obtain ⟨e1, he1⟩ := hA.out.at_ hx.out
        have hinn := (hA.out.below hbel).inn i x e1 hx.out he1
        obtain ⟨e1b, e1l, e1e⟩ := e1
        obtain ⟨Ab, Cb, hvb, rb⟩ := int_reads hinn.1
        obtain ⟨Al, Cl, hvl, rl⟩ := int_reads hinn.2.1
        obtain ⟨Ae, Ce, hve, re⟩ := int_reads hinn.2.2
        simp only at hvb hvl hve
        subst hvb hvl hve
        obtain ⟨ga, hga⟩ : ∃ ga, Aa = some ⟨ga, 0, none⟩ := by
          have hr := hA.out.row
          rw [hNL.out] at hr
          obtain ⟨g, cap, hv, -, -⟩ := hr.form (by omega)
          cases hv
          exact ⟨g, rfl⟩
        subst hga
        obtain ⟨nb, hnb⟩ : ∃ nb, Hid (x.blocks.length = nb) := ⟨_, hide rfl⟩
        obtain ⟨nl, hnl⟩ : ∃ nl, Hid (x.latch.length = nl) := ⟨_, hide rfl⟩
        obtain ⟨nx, hnx⟩ : ∃ nx, Hid (x.exits.length = nx) := ⟨_, hide rfl⟩
        rw [hnb.out] at hz1
        rw [hnl.out] at hz2
        rw [hnx.out] at hz3
        have hlt1 := latN_take hx.out
        have hltm := latN_mono (ls := LL) (i := i + 1)
        rw [hnl.out] at hlt1
        rw [← htot.out] at hltm
        obtain ⟨s0, hs0⟩ : ∃ s0, Hid (latN (LL.take i) = s0) := ⟨_, hide rfl⟩
        rw [hs0.out] at hlt1 ⊢
        have hs0t : s0 + nl ≤ 1600 := by omega
        rw [hnb.out, hnl.out, hnx.out] at he1
        have RA := (hA.out.below hbel).cells hx.out he1
        obtain ⟨a0, a1, a2, a3, a4⟩ := RA
        rw [hxh] at a0
        have a1' : V.cell? ⟨ga, i * 5 + 1, none⟩ = some (.slice Ab nb Cb) := a1
        have a2' : V.cell? ⟨ga, i * 5 + 2, none⟩ = some (.slice Al nl Cl) := a2
        have a3' : V.cell? ⟨ga, i * 5 + 3, none⟩ = some (.slice Ae nx Ce) := a3
        rw [hnb.out] at rb
        rw [hnl.out] at rl
        rw [hnx.out] at re
        have hIb := hinn.1
        rw [hxh] at hxd hxl
        replace hIb := hide hIb
        replace hlt1 := hide hlt1
        replace hltm := hide hltm
        replace hxd := hide hxd
        replace hxl := hide hxl
        replace hxe := hide hxe
        replace rb := hide rb
        replace rl := hide rl
        replace re := hide re
        replace hxh := hide hxh
        clear hinn a1 a2 a3
        obtain ⟨V1, hV1, hwV1, hV1s, hxx⟩ := boxes1 V #[.int .i64 (k0 : Int), .slice Ab nb Cb, .slice Al nl Cl, .slice Ae nx Ce, .int .i64 (x.depth : Int)] 34
        have x0 : ∀ w', Below V1.heap.size V1 w' → w'.cell? ⟨V.heap.size, 0, none⟩ = some (.int .i64 (k0 : Int)) := hxx 0 _ rfl
        have x1 : ∀ w', Below V1.heap.size V1 w' → w'.cell? ⟨V.heap.size, 1, none⟩ = some (.slice Ab nb Cb) := hxx 1 _ rfl
        have x2 : ∀ w', Below V1.heap.size V1 w' → w'.cell? ⟨V.heap.size, 2, none⟩ = some (.slice Al nl Cl) := hxx 2 _ rfl
        have x3 : ∀ w', Below V1.heap.size V1 w' → w'.cell? ⟨V.heap.size, 3, none⟩ = some (.slice Ae nx Ce) := hxx 3 _ rfl
        have hb1 := hbel.trans (hwV1.mono hVs)
        have hb1s := hb1.size
        have hXV1 : Hid (∀ w', Below V1.heap.size V1 w' → Below X.heap.size X w') := hide (fun w' h => hb1.trans (h.mono hb1s))
        have hVV1 : Hid (∀ w', Below V1.heap.size V1 w' → Below V.heap.size V w') := hide (fun w' h => hwV1.trans (h.mono hwV1.size))
        have cHa : Hid (∀ (t : Int) w', Below V1.heap.size V1 w' → Calls Try.prog 23 #[.slice Ab nb Cb, .int .i64 t] w' fun e w'' => e = .returned (.bool (decide (t ∈ x.blocks))) ∧ w'' = w') := hide (fun t w' h => by
          have := has13_any Ab Cb x.blocks t w' w2.heap.size (by rw [hnb.out]; omega) (hIb.out.below (hVV1.out w' h))
          rwa [hnb.out] at this)
        have hself1 := Below.refl V1.heap.size V1
        replace hV1s := hide hV1s
        replace hwV1 := hide hwV1
        clear hxx hbel
        go_upto_region 11 with (fail)
        replace hV1 := hide hV1
        clear a0 a1' a2' a3' a4
        go_wp2
        go_loopw [37] (fun s wr => ∃ j : Nat, s = .int .i64 j ∧ j ≤ nb ∧ Below V1.heap.size V1 wr) (fun s _ => nb - (intOf s).toNat)
        case atStart => exact ⟨0, rfl, Nat.zero_le _, hself1⟩
        case round =>
          clear hself1
          rename World => Q
          obtain ⟨j, rfl, hj, hon⟩ := hrel
          have hQs := hon.size
          by_cases hltj : j < nb
          · have hji : (j : Int) < (nb : Int) := by omega
            obtain ⟨t, ht9⟩ := get_ex (l := x.blocks) (k := j) (by rw [hnb.out]; exact hltj)
            obtain ⟨g5, hg5, rx⟩ := rb.out (by omega)
            subst hg5
            have rx0 := rx j _ ht9.out Q (hVV1.out Q hon)
            clear rx
            have hdt := hxd.out t (List.mem_of_getElem? ht9.out)
            have cD0 := cD.out k0 t Q (hWX.out _ (hXV1.out _ hon))
            rw [hdt] at cD0
            replace hdt := hide hdt
            replace cD0 := hide cD0
            have hpX := hXV1.out Q hon
            go_wp2_with (fail)
            refine cD0.out.mono ?_
            rintro e Q2 ⟨rfl, hb2⟩
            have hon2 := hon.trans (hb2.mono hQs)
            clear hon hb2 rx0 hpX cD0
            go_wp2
            go_roundw
            case rel => exact ⟨j + 1, by go_num, hltj, hon2⟩
            case measure => simp [intOf]; omega
          · obtain rfl : j = nb := by omega
            go_wp2
            go_loopw [6, 51] (fun s6 s wr => ∃ c : Nat, s = .int .i64 c ∧ c ≤ nl ∧ s6 = .int .i64 ((s0 : Int) + (c : Int)) ∧ Below V1.heap.size V1 wr) (fun _ s _ => nl - (intOf s).toNat)
            case atStart => exact ⟨0, rfl, Nat.zero_le _, by simp, hon⟩
            case round =>
              clear hon hQs Q
              rename World => Q
              obtain ⟨c, rfl, hc, rfl, hon⟩ := hrel
              have hQs := hon.size
              by_cases hltc : c < nl
              · have hci : (c : Int) < (nl : Int) := by omega
                obtain ⟨t, ht9⟩ := get_ex (l := x.latch) (k := c) (by rw [hnl.out]; exact hltc)
                obtain ⟨g5, hg5, rx⟩ := rl.out (by omega)
                subst hg5
                have rx0 := rx c _ ht9.out Q (hVV1.out Q hon)
                clear rx
                obtain ⟨hin1, hin2⟩ := hxl.out t (List.mem_of_getElem? ht9.out)
                have y0 : ∀ w', Below Q.heap.size Q w' → w'.cell? ⟨V.heap.size, 0, none⟩ = some (.int .i64 (k0 : Int)) := fun w' h => x0 w' (hon.trans (h.mono hQs))
                have y1 : ∀ w', Below Q.heap.size Q w' → w'.cell? ⟨V.heap.size, 1, none⟩ = some (.slice Ab j Cb) := fun w' h => x1 w' (hon.trans (h.mono hQs))
                have hXQ : Hid (∀ w', Below Q.heap.size Q w' → Below X.heap.size X w') := hide (fun w' h => hXV1.out w' (hon.trans (h.mono hQs)))
                have r0 : ∀ w', Below Q.heap.size Q w' → w'.cell? ⟨w.heap.size, 0, none⟩ = some (.string f.name) := fun w' h => p0 w' (hXQ.out w' h)
                have r1 : ∀ w', Below Q.heap.size Q w' → w'.cell? ⟨w.heap.size, 1, none⟩ = some (.slice A1 f.params.length k1) := fun w' h => p1 w' (hXQ.out w' h)
                have r2 : ∀ w', Below Q.heap.size Q w' → w'.cell? ⟨w.heap.size, 2, none⟩ = some (.int .i64 f.ret) := fun w' h => p2 w' (hXQ.out w' h)
                have r3 : ∀ w', Below Q.heap.size Q w' → w'.cell? ⟨w.heap.size, 3, none⟩ = some (.slice A2 n k2) := fun w' h => p3 w' (hXQ.out w' h)
                have hselfQ := Below.refl Q.heap.size Q
                have hon1 := hon.trans (hselfQ.drew.mono hQs)
                have cH1 := cHa.out t Q.drew hon1
                rw [decide_eq_true hin1] at cH1
                replace cH1 := hide cH1
                have hsct : (sc t).length ≤ 4000000 := by have := succ_len (hsok.out t); omega
                have hin2' := hide hin2
                clear rl
                have hwr : IntKind.i64.wrap ((s0 : Int) + (c : Int) + 1) = (s0 : Int) + (c : Int) + 1 := by rw [IntKind.wrap_i64]; omega
                go_upto_region 20 with (fail)
                refine wp_region_held_drew (S := fun w' => Below Q.heap.size Q w') (by kernel_rfl) (hselfQ.drew) (fun hHeld => ?_)
                refine wpAnyH_take (i := 0) (v := ?_) (by simp only [List.getElem?_toArray, List.getElem?_cons_succ, List.getElem?_cons_zero]; rfl) (by kernel_rfl) (by kernel_rfl) (by kernel_rfl) (by exact fun _ _ _ h => h) (Or.inl ⟨by rfl, ?_⟩) (by assumption) ?_
                rotate_left
                · intro w9 hSw
                  go_simp
                  all_goals with_reducible rfl
                try simp only [Act.put, List.setIfInBounds_toArray, List.set_cons_zero, List.set_cons_succ]
                refine wpAnyH_take (i := 1) (v := ?_) (by simp only [List.getElem?_toArray, List.getElem?_cons_succ, List.getElem?_cons_zero]; rfl) (by kernel_rfl) (by kernel_rfl) (by kernel_rfl) (by exact fun _ _ _ h => h) (Or.inl ⟨by rfl, ?_⟩) (by assumption) ?_
                rotate_left
                · intro w9 hSw
                  go_simp
                  all_goals with_reducible rfl
                try simp only [Act.put, List.setIfInBounds_toArray, List.set_cons_zero, List.set_cons_succ]
                refine wpAnyH_take (i := 2) (v := ?_) (by simp only [List.getElem?_toArray, List.getElem?_cons_succ, List.getElem?_cons_zero]; rfl) (by kernel_rfl) (by kernel_rfl) (by kernel_rfl) (by exact fun _ _ _ h => h) (Or.inl ⟨by rfl, ?_⟩) (by assumption) ?_
                rotate_left
                · intro w9 hSw
                  go_simp
                  all_goals with_reducible rfl
                try simp only [Act.put, List.setIfInBounds_toArray, List.set_cons_zero, List.set_cons_succ]
                refine wpAnyH_ready (rs := [3]) (by kernel_rfl) (by simp) ?_
                refine AllReadyH.cons (by simp only [List.getElem?_toArray, List.getElem?_cons_succ, List.getElem?_cons_zero]; rfl) (fun K hK => ?_) AllReadyH.nil
                go_simp
                go_at_call 23
                refine cH1.out.mono ?_
                rintro e Q3 ⟨rfl, hQ3⟩
                replace hQ3 := hQ3.symm
                subst hQ3
                refine hK.out _ _ (hselfQ.drew) (fun hHeld => ?_)
                clear hK K
                try simp only [Act.put, List.setIfInBounds_toArray, List.set_cons_zero, List.set_cons_succ]
                refine wpAnyH_take (i := 4) (v := ?_) (by simp only [List.getElem?_toArray, List.getElem?_cons_succ, List.getElem?_cons_zero]; rfl) (by kernel_rfl) (by kernel_rfl) (by kernel_rfl) (by exact fun _ _ _ h => h) (Or.inl ⟨by rfl, ?_⟩) (by assumption) ?_
                rotate_left
                · intro w9 hSw
                  go_simp
                  all_goals with_reducible rfl
                try simp only [Act.put, List.setIfInBounds_toArray, List.set_cons_zero, List.set_cons_succ]
                refine wpAnyH_take (i := 5) (v := ?_) (by simp only [List.getElem?_toArray, List.getElem?_cons_succ, List.getElem?_cons_zero]; rfl) (by kernel_rfl) (by kernel_rfl) (by kernel_rfl) (by exact fun _ _ _ h => h) (Or.inl ⟨by rfl, ?_⟩) (by assumption) ?_
                rotate_left
                · intro w9 hSw
                  go_simp
                  all_goals with_reducible rfl
                try simp only [Act.put, List.setIfInBounds_toArray, List.set_cons_zero, List.set_cons_succ]
                refine wpAnyH_take (i := 6) (v := ?_) (by simp only [List.getElem?_toArray, List.getElem?_cons_succ, List.getElem?_cons_zero]; rfl) (by kernel_rfl) (by kernel_rfl) (by kernel_rfl) (by exact fun _ _ _ h => h) (Or.inl ⟨by rfl, ?_⟩) (by assumption) ?_
                rotate_left
                · intro w9 hSw
                  go_simp
                  all_goals with_reducible rfl
                try simp only [Act.put, List.setIfInBounds_toArray, List.set_cons_zero, List.set_cons_succ]
                refine wpAnyH_take (i := 7) (v := ?_) (by simp only [List.getElem?_toArray, List.getElem?_cons_succ, List.getElem?_cons_zero]; rfl) (by kernel_rfl) (by kernel_rfl) (by kernel_rfl) (by exact fun _ _ _ h => h) (Or.inl ⟨by rfl, ?_⟩) (by assumption) ?_
                rotate_left
                · intro w9 hSw
                  go_simp
                  all_goals with_reducible rfl
                try simp only [Act.put, List.setIfInBounds_toArray, List.set_cons_zero, List.set_cons_succ]
                refine wpAnyH_take (i := 9) (v := ?_) (by simp only [List.getElem?_toArray, List.getElem?_cons_succ, List.getElem?_cons_zero]; rfl) (by kernel_rfl) (by kernel_rfl) (by kernel_rfl) (by exact fun _ _ _ h => h) (Or.inl ⟨by rfl, ?_⟩) (by assumption) ?_
                rotate_left
                · intro w9 hSw
                  go_simp
                  all_goals with_reducible rfl
                try simp only [Act.put, List.setIfInBounds_toArray, List.set_cons_zero, List.set_cons_succ]
                refine wpAnyH_take (i := 10) (v := ?_) (by simp only [List.getElem?_toArray, List.getElem?_cons_succ, List.getElem?_cons_zero]; rfl) (by kernel_rfl) (by kernel_rfl) (by kernel_rfl) (by exact fun _ _ _ h => h) (Or.inl ⟨by rfl, ?_⟩) (by assumption) ?_
                rotate_left
                · intro w9 hSw
                  go_simp
                  all_goals with_reducible rfl
                try simp only [Act.put, List.setIfInBounds_toArray, List.set_cons_zero, List.set_cons_succ]
                refine wpAnyH_ready (rs := [8]) (by kernel_rfl) (by simp) ?_
                refine AllReadyH.cons (by simp only [List.getElem?_toArray, List.getElem?_cons_succ, List.getElem?_cons_zero]; rfl) (fun K hK => ?_) AllReadyH.nil
                go_simp
                go_at_call 27
                refine (cSu.out t Q.drew (hWX.out _ (hXQ.out _ hselfQ.drew))).mono ?_
                rintro e Q4 ⟨vS, rfl, hS, hb4⟩
                have hkS : Below Q.heap.size Q Q4 := hselfQ.drew.trans (hb4.mono (Nat.le_refl _))
                obtain ⟨AS, CS, hvS⟩ := row_form hS.row
                subst hvS
                have cH2 := has13_any AS CS (sc t) (k0 : Int) Q4 Q.drew.heap.size hsct hS
                rw [decide_eq_true hin2'.out] at cH2
                have cH3 := hide cH2
                clear hS hb4 cH2
                refine hK.out _ _ (hkS) (fun hHeld => ?_)
                clear hK K
                try simp only [Act.put, List.setIfInBounds_toArray, List.set_cons_zero, List.set_cons_succ]
                refine wpAnyH_ready (rs := [11]) (by kernel_rfl) (by simp) ?_
                refine AllReadyH.cons (by simp only [List.getElem?_toArray, List.getElem?_cons_succ, List.getElem?_cons_zero]; rfl) (fun K hK => ?_) AllReadyH.nil
                go_simp
                go_at_call 23
                refine cH3.out.mono ?_
                rintro e Z ⟨rfl, hZ⟩
                have hkZ : Below Q.heap.size Q Z := by rw [hZ]; exact hkS
                clear hZ
                refine hK.out _ _ (hkZ) (fun hHeld => ?_)
                clear hK K
                try simp only [Act.put, List.setIfInBounds_toArray, List.set_cons_zero, List.set_cons_succ]
                refine wpAnyH_take (i := 12) (v := ?_) (by simp only [List.getElem?_toArray, List.getElem?_cons_succ, List.getElem?_cons_zero]; rfl) (by kernel_rfl) (by kernel_rfl) (by kernel_rfl) (by exact fun _ _ _ h => h) (Or.inl ⟨by rfl, ?_⟩) (by assumption) ?_
                rotate_left
                · intro w9 hSw
                  go_simp
                  all_goals with_reducible rfl
                try simp only [Act.put, List.setIfInBounds_toArray, List.set_cons_zero, List.set_cons_succ]
                refine wpAnyH_take (i := 13) (v := ?_) (by simp only [List.getElem?_toArray, List.getElem?_cons_succ, List.getElem?_cons_zero]; rfl) (by kernel_rfl) (by kernel_rfl) (by kernel_rfl) (by exact fun _ _ _ h => h) (Or.inl ⟨by rfl, ?_⟩) (by assumption) ?_
                rotate_left
                · intro w9 hSw
                  go_simp
                  all_goals with_reducible rfl
                try simp only [Act.put, List.setIfInBounds_toArray, List.set_cons_zero, List.set_cons_succ]
                refine wpAnyH_done (by kernel_rfl) ?_ _
                have hon9 := hon.trans (hkZ.mono hQs)
                clear hkZ hkS y0 y1 r0 r1 r2 r3 hselfQ hon1
                go_wp2
                go_roundw
                case rel => exact ⟨c + 1, by go_num, hltc, by first | done | (congr 1 <;> omega), hon9⟩
                case measure => simp [intOf]; omega
              · obtain rfl : c = nl := by omega
                go_wp2
                go_loopw [75] (fun s wr => ∃ d : Nat, s = .int .i64 d ∧ d ≤ nx ∧ Below V1.heap.size V1 wr) (fun s _ => nx - (intOf s).toNat)
                case atStart => exact ⟨0, rfl, Nat.zero_le _, hon⟩
                case round =>
                  clear hon hQs Q
                  rename World => Q
                  obtain ⟨d, rfl, hd, hon⟩ := hrel
                  by_cases hltd : d < nx
                  · have hdi : (d : Int) < (nx : Int) := by omega
                    obtain ⟨t, ht9⟩ := get_ex (l := x.exits) (k := d) (by rw [hnx.out]; exact hltd)
                    obtain ⟨g5, hg5, rx⟩ := re.out (by omega)
                    subst hg5
                    have rx0 := rx d _ ht9.out Q (hVV1.out Q hon)
                    clear rx
                    have hni := hxe.out t (List.mem_of_getElem? ht9.out)
                    have cH1 := cHa.out t Q hon
                    rw [decide_eq_false hni] at cH1
                    replace cH1 := hide cH1
                    replace hni := hide hni
                    go_wp2_with (go_at_call 23; refine cH1.out.mono ?_; rintro e Q2 ⟨rfl, hQ2⟩; replace hQ2 := hQ2.symm; subst hQ2)
                    go_roundw
                    case rel => exact ⟨d + 1, by go_num, hltd, hon⟩
                    case measure => simp [intOf]; omega
                  · obtain rfl : d = nx := by omega
                    have hbX := hXV1.out Q hon
                    go_wp2
                    go_roundw
                    case rel => exact ⟨i + 1, by go_num, hlti, by rw [hlt1.out]; first | done | congr 1, hbX⟩
                    case measure => simp [intOf]; omega
      · obtain rfl : i = NL := by omega
        have hnn : ((n : Int) != (n : Int)) = false := by simp
        have htk : Hid ((latN (LL.take i) : Int) = (tot : Int) - (latPre sc O P 0 : Int)) := hide (by
          rw [htot.out, List.take_of_length_le (by rw [hNL.out]; exact Nat.le_refl _)]
          simp [latPre])
        rw [htk.out]
        go_wp2
        go_loopw [6, 102] (fun s6 s wr => ∃ a : Nat, s = .int .i64 a ∧ a ≤ n ∧ s6 = .int .i64 ((tot : Int) - (latPre sc O P a : Int)) ∧ Below X.heap.size X wr) (fun _ s _ => n - (intOf s).toNat)
        case atStart => exact ⟨0, rfl, Nat.zero_le _, rfl, hbel⟩
        case round =>
          clear hbel hVs V
          rename World => V
          obtain ⟨a, rfl, ha, rfl, hbel⟩ := hrel
          have hVs := hbel.size
          by_cases hlta : a < n
          · have hai : (a : Int) < (n : Int) := by omega
            obtain ⟨p, hp⟩ := get_ex (l := P) (k := a) (by omega)
            obtain ⟨Ap, Cp, rp, rpx⟩ := hpr.out a p hp.out
            obtain ⟨hpl, hpm⟩ := hPm.out a p hp.out
            have hPe := hide (latP_end (sc := sc) (o := O) hp.out)
            have rp0 := rp V hbel
            obtain ⟨m, hm⟩ : ∃ m, Hid (m = p.length) := ⟨_, hide rfl⟩
            rw [← hm.out] at rp0 hpl hPe
            replace rpx := hide rpx
            replace hpm := hide hpm
            have hpa : latPre sc O P a ≤ 1600 := by
              have h1 := latPre_le hll.out a (by omega)
              have h2 := Nat.mul_le_mul (show a ≤ 40 by omega) hn40
              omega
            obtain ⟨s0, hs0⟩ : ∃ s0, Hid (latPre sc O P a = s0) := ⟨_, hide rfl⟩
            have hstep := latPre_step (sc := sc) (o := O) (P := P) (a := a)
            rw [hs0.out] at hpa hstep ⊢
            replace hstep := hide hstep
            clear rp
            have h00 : Hid ((latP sc O p a 0).length = 0) := hide (by simp [latP])
            go_wp2
            go_loopw [6, 110] (fun s6 s wr => ∃ j : Nat, s = .int .i64 j ∧ j ≤ m ∧ s6 = .int .i64 ((tot : Int) - (s0 : Int) - ((latP sc O p a j).length : Int)) ∧ Below X.heap.size X wr) (fun _ s _ => m - (intOf s).toNat)
            case atStart => exact ⟨0, rfl, Nat.zero_le _, by rw [h00.out]; simp, hbel⟩
            case round =>
              clear hbel hVs rp0 V
              rename World => V
              obtain ⟨j, rfl, hj, rfl, hbel⟩ := hrel
              have hVs := hbel.size
              by_cases hltj : j < m
              · have hji : (j : Int) < (m : Int) := by omega
                obtain ⟨x0, hx0'⟩ := get_ex (l := p) (k := j) (by rw [← hm.out]; exact hltj)
                obtain ⟨g5, hg5, rx⟩ := rpx.out (by rw [← hm.out]; omega)
                subst hg5
                have rx0 := rx j _ hx0'.out V hbel
                clear rx
                have hst := latP_step (sc := sc) (o := O) (h := a) hx0'.out
                have hle := latP_len (sc := sc) (o := O) (p := p) (h := a) (i := j)
                rw [← hm.out] at hle
                obtain ⟨d, hd⟩ : ∃ d, Hid (domB sc O a x0 = d) := ⟨_, hide rfl⟩
                have cD0 := cD.out a x0 V (hWX.out _ hbel)
                rw [hd.out] at cD0 hst
                replace cD0 := hide cD0
                obtain ⟨q0, hq0⟩ : ∃ q0, Hid ((latP sc O p a j).length = q0) := ⟨_, hide rfl⟩
                have hst2 : (latP sc O p a (j + 1)).length = q0 + (if d = true then 1 else 0) := by
                  rw [hst, List.length_append, hq0.out]
                  cases d <;> rfl
                rw [hq0.out] at hle ⊢
                replace hst := hide hst
                have hwr : IntKind.i64.wrap ((tot : Int) - (s0 : Int) - (q0 : Int) - 1) = (tot : Int) - (s0 : Int) - (q0 : Int) - 1 := by rw [IntKind.wrap_i64]; omega
                go_wp2_with (fail)
                refine cD0.out.mono ?_
                rintro e V2 ⟨rfl, hb2⟩
                have hbel2 := hbel.trans (hb2.mono hVs)
                clear hbel hb2 rx0 cD0
                cases d with
                | true =>
                  rw [if_pos rfl] at hst2
                  have hnx : Hid ((tot : Int) - (s0 : Int) - (q0 : Int) - 1 = (tot : Int) - (s0 : Int) - ((latP sc O p a (j + 1)).length : Int)) := hide (by rw [hst2]; omega)
                  replace hst2 := hide hst2
                  go_wp2
                  go_roundw
                  case rel => exact ⟨j + 1, by go_num, hltj, by rw [← hnx.out], hbel2⟩
                  case measure => simp [intOf]; omega
                | false =>
                  rw [if_neg (by simp)] at hst2
                  have hnx : Hid ((latP sc O p a (j + 1)).length = q0) := hide (by rw [hst2]; rfl)
                  replace hst2 := hide hst2
                  go_wp2
                  go_roundw
                  case rel => exact ⟨j + 1, by go_num, hltj, by rw [hnx.out], hbel2⟩
                  case measure => simp [intOf]; omega
              · obtain rfl : j = m := by omega
                go_wp2
                go_roundw
                case rel => exact ⟨a + 1, by go_num, hlta, by rw [hstep.out, hPe.out]; first | done | (congr 1 <;> omega), hbel⟩
                case measure => simp [intOf]; omega
          · obtain rfl : a = n := by omega
            have hz : Hid ((tot : Int) - (latPre sc O P a : Int) = 0) := hide (by rw [htp.out]; omega)
            rw [hz.out]
            have hw := hide (hwW.out.trans ((hWX.out V hbel).mono hws))
            go_wp2
            go_ret
            exact ⟨rfl, hw.out⟩
end Go.Proofs.Ytidjaohlaljmpaa
