/- The law IrSums, walked. No condition but sizes. -/
import Derived.Test.YtffklfalocamiaaHm
import Derived.Test.YtffklfalocamiaaIcI
import Derived.Test.YtffklfalocamiaaIcF
import Derived.Test.YtffklfalocamiaaIrH
import Derived.Test.YtffklfalocamiaaIrG
import Derived.Test.YtffklfalocamiaaIrC
namespace Go.Proofs.Ytffklfalocamiaa
open Go.RowKit
set_option linter.unusedSimpArgs false
set_option linter.unusedVariables false

set_option maxRecDepth 100000 in
set_option maxHeartbeats 12800000 in
theorem law_sums (f : Fun) (reg other : Int) (hro : I64 other) (c1 c2 : Value) (w : World) (hf : RFun.rep w w.heap.size [.string f.name, c1, .int .i64 f.ret, c2] f) (hz : funSz f ≤ 2000000) :
    Calls Try.prog 14 #[f.v c1 c2, .int .i64 reg, .int .i64 other] w (LawPost w) := by
  have hs : Small f := small_of hz
  obtain ⟨hal, hfl⟩ := args_le hz
  have hRl : (regsL f.blocks.flatten).length ≤ 2000000 := Nat.le_trans (regsL_len _) hal
  obtain ⟨hp, hb⟩ := fun_open (RFun.later hf (Below.refl _ _) (Nat.le_refl _))
  obtain ⟨A1, k1, h1, -, -⟩ := Rp.slice1_open hp
  obtain ⟨A2, k2, h2, hm2, gb⟩ := Rp.slice1_open hb
  cases h1; cases h2
  replace gb := hide gb
  clear hp hb
  obtain ⟨n, hn⟩ : ∃ n, Hid (n = f.blocks.length) := ⟨_, hide rfl⟩
  have hnle : n ≤ 2000000 := by rw [hn.out]; exact hs.blocks
  obtain ⟨R, hR⟩ : ∃ R, Hid (R = regsL f.blocks.flatten) := ⟨_, hide rfl⟩
  rw [← hR.out] at hRl
  rw [← hn.out] at hf hm2 ⊢
  obtain ⟨W, hW, hwW, hWs, hx⟩ := boxes1 w #[.string f.name, .slice A1 f.params.length k1, .int .i64 f.ret, .slice A2 n k2] 41
  have q0 : ∀ w', Below W.heap.size W w' → w'.cell? ⟨w.heap.size, 0, none⟩ = some (.string f.name) := hx 0 _ rfl
  have q1 : ∀ w', Below W.heap.size W w' → w'.cell? ⟨w.heap.size, 1, none⟩ = some (.slice A1 f.params.length k1) := hx 1 _ rfl
  have q2 : ∀ w', Below W.heap.size W w' → w'.cell? ⟨w.heap.size, 2, none⟩ = some (.int .i64 f.ret) := hx 2 _ rfl
  have q3 : ∀ w', Below W.heap.size W w' → w'.cell? ⟨w.heap.size, 3, none⟩ = some (.slice A2 n k2) := hx 3 _ rfl
  clear hx
  have hws : w.heap.size ≤ W.heap.size := by omega
  replace hWs := hide hWs
  have hself := Below.refl W.heap.size W
  have hF : Hid (∀ w', Below W.heap.size W w' → RFun.rep w' w'.heap.size [.string f.name, .slice A1 f.params.length k1, .int .i64 f.ret, .slice A2 n k2] f) := hide (fun w' h => RFun.later hf (hwW.trans (h.mono hws)) (hwW.trans (h.mono hws)).size)
  have cU : Hid (∀ (r : Int) w', Below W.heap.size W w' → Calls Try.prog 38 #[f.v (.slice A1 f.params.length k1) (.slice A2 n k2), .int .i64 r] w' fun e w'' => e = .returned (.int .i64 ((R.count r : Nat) : Int)) ∧ Below w'.heap.size w' w'') := hide (fun r w' h => by
    obtain ⟨hp, hb⟩ := fun_open (hF.out w' h)
    have := uses_any f r (.slice A1 f.params.length k1) (.slice A2 n k2) w' w'.heap.size (Nat.le_refl _) hp hb (by omega)
    rw [show iuses f r = R.count r by unfold iuses; rw [usesL_count, hR.out]] at this
    exact this)
  have cL : Hid (∀ w', Below W.heap.size W w' → Calls Try.prog 35 #[f.v (.slice A1 f.params.length k1) (.slice A2 n k2)] w' fun e w'' => e = .returned (.int .i64 ((f.blocks.flatten.length : Nat) : Int)) ∧ Below w'.heap.size w' w'') := hide (fun w' h => by
    obtain ⟨hp, hb⟩ := fun_open (hF.out w' h)
    exact size_any f (.slice A1 f.params.length k1) (.slice A2 n k2) w' w'.heap.size (Nat.le_refl _) hp hb (by omega))
  have hsm := hide hs
  have hz2 := hide hz
  have hfh := hide hf
  have hwWh := hide hwW
  have hal2 := hide hal
  have hmm := @run_makeMap Try.prog
  clear hs hz hf hwW hal
  go_enter Try.func14, Try.ntmps14
  go_wp2_with (fail)
  refine (lives02 _).mono ?_
  rintro e w1 ⟨rfl, hb1⟩
  have c9 := hide (few_any [] [] [f] 1500 (.slice none 0 0) (.slice none 0 0) (.slice (some ⟨w1.heap.size, 0, none⟩) 1 1) _ _ (Nat.le_refl _) Rp.nil_rep Rp.nil_rep (one_fun (Nat.le_refl _) (hF.out w1 hb1)))
  go_wp2_with (fail)
  refine c9.out.mono ?_
  rintro e w2 ⟨bl, rfl, hb2⟩
  have hbel2 := hb1.trans ((bstep hb2).mono hb1.size)
  clear hb1 hb2 c9
  cases bl with
  | false =>
    go_wp2
    go_ret
    exact ⟨rfl, hwWh.out.trans (hbel2.mono hws)⟩
  | true =>
    have hMS := MSet.made w2
    have hX := hbel2.alloc hbel2.size (.map #[] 0)
    have hMs : W.heap.size ≤ w2.heap.size := hbel2.size
    go_upto_region 7 with (fail)
    obtain ⟨X, hXe⟩ : ∃ X, X = w2.alloc (.map #[] 0) := ⟨_, rfl⟩
    obtain ⟨M, hMe⟩ : ∃ M, M = w2.heap.size := ⟨_, rfl⟩
    rw [← hXe] at hMS hX ⊢
    rw [← hMe] at hMS hMs ⊢
    have hstart : Hid (MSet X M 0 (seenQ [])) := hide (by rw [seen_none]; exact hMS)
    clear hXe hMe hMS hmm hbel2
    go_wp2
    go_loopw [7, 9, 28] (fun a s i wr => ∃ (k : Nat) (P : List Int), i = .int .i64 k ∧ a = .int .i64 P.length ∧ s = .int .i64 ((sumS R (seenQ P) : Nat) : Int) ∧ k ≤ n ∧ Hid (P = regsL (before f.blocks k 0)) ∧ Hid (MSet wr M P.length (seenQ P)) ∧ Below W.heap.size W wr) (fun _ _ i _ => n - (intOf i).toNat)
    case atStart => exact ⟨0, [], rfl, rfl, by rw [seen_none, sumS_none]; rfl, Nat.zero_le _, hide rfl, hstart, hX⟩
    case round =>
      clear hstart hX
      obtain ⟨k, P, rfl, rfl, rfl, hk, hP, hms, hbel⟩ := hrel
      by_cases hlt : k < n
      · have hki : (k : Int) < (n : Int) := by omega
        obtain ⟨x, hx⟩ := get_ex (l := f.blocks) (k := k) (by rw [← hn.out]; exact hlt)
        obtain ⟨b1, o1, rfl, he1⟩ := gb.out (by rw [← hn.out]; omega)
        obtain ⟨d1, hr1, hd1⟩ := he1 k x hx.out
        obtain ⟨A3, c3, h3, hm3, ga3⟩ := Rp.slice_open hr1
        cases h3
        replace ga3 := hide ga3
        have hd1' : ∀ w', Below W.heap.size W w' → w'.cell? ⟨b1, o1 + k, none⟩ = some (.slice A3 x.length c3) := fun w' h => hd1 w' (hwWh.out.trans (h.mono hws))
        clear hd1 hr1 he1
        have hx8 := (hsm.out.code x (List.mem_of_getElem? hx.out)).1
        have hbel2 : Below W.heap.size W (wr.alloc (.cells #[.slice A3 x.length c3] 91)) := hbel.alloc hbel.size _
        have hms2 := hide (hms.out.alloc (.cells #[.slice A3 x.length c3] 91))
        go_wp2
        go_loopw [7, 9, 35] (fun a s i wr => ∃ (j : Nat) (P : List Int), i = .int .i64 j ∧ a = .int .i64 P.length ∧ s = .int .i64 ((sumS R (seenQ P) : Nat) : Int) ∧ j ≤ x.length ∧ Hid (P = regsL (before f.blocks k j)) ∧ Hid (MSet wr M P.length (seenQ P)) ∧ Below W.heap.size W wr) (fun _ _ i _ => x.length - (intOf i).toNat)
        case atStart => exact ⟨0, P, rfl, rfl, rfl, Nat.zero_le _, hP, hms2, hbel2⟩
        case round =>
          clear hbel hbel2 hms hms2 hP
          obtain ⟨j, P, rfl, rfl, rfl, hj, hP, hms, hbel⟩ := hrel
          by_cases hlt2 : j < x.length
          · have hji : (j : Int) < (x.length : Int) := by omega
            obtain ⟨b3, o3, rfl, he3⟩ := ga3.out (by omega)
            obtain ⟨ins, hins⟩ := get_ex (l := x) (k := j) hlt2
            obtain ⟨_, _, ⟨a1, a2, rfl, ha, hto, -⟩, hc⟩ := he3 j ins hins.out
            obtain ⟨A5, k5, h5, hm5, ga5⟩ := Rp.slice_open ha
            obtain ⟨A6, k6, h6, hm6, -⟩ := Rp.slice1_open hto
            cases h5; cases h6
            replace ga5 := hide ga5
            obtain ⟨e0, e1, e2, e3, e4, e5, e6⟩ := (hc.later hwWh.out hws).seven
            clear he3 ha hto hc
            have ha8 := ((hsm.out.code x (List.mem_of_getElem? hx.out)).2 ins (List.mem_of_getElem? hins.out)).1
            obtain ⟨Z, hZ, hwZ, hZs, hzc⟩ := boxes1 wr #[.int .i64 ins.op, .int .i64 ins.reg, .int .i64 ins.ty, .int .i64 ins.num, .int .i64 ins.flags, .slice A5 ins.args.length k5, .slice A6 ins.to.length k6] 70
            have hbelZ : Below W.heap.size W Z := hbel.trans (hwZ.mono hbel.size)
            have hmsZ := hide (hms.out.of_heap (hwZ.block M hms.out.lt))
            have y5 := hzc 5 _ rfl Z (Below.refl _ _)
            replace hwZ := hide hwZ
            replace hZs := hide hZs
            clear hzc
            go_upto_region 14 with (fail)
            try rw [hZ]
            clear hZ e0 e1 e2 e3 e4 e5 e6
            have hPre := pre_at (bs := f.blocks) (i := k) (j := j)
            rw [← hP.out, ← hR.out] at hPre
            have hPl := pre_len hPre
            replace hPre := hide hPre
            have hP0 : Hid (P = regsL (before f.blocks k j) ++ regsIn (ins.args.take 0)) := hide (by rw [hP.out]; simp [regsIn])
            clear hbel hms
            go_wp2
            go_loopw [7, 9, 42] (fun a s i wr => ∃ (m : Nat) (P : List Int), i = .int .i64 m ∧ a = .int .i64 P.length ∧ s = .int .i64 ((sumS R (seenQ P) : Nat) : Int) ∧ m ≤ ins.args.length ∧ Hid (P = regsL (before f.blocks k j) ++ regsIn (ins.args.take m)) ∧ Hid (MSet wr M P.length (seenQ P)) ∧ Below W.heap.size W wr) (fun _ _ i _ => ins.args.length - (intOf i).toNat)
            case atStart => exact ⟨0, P, rfl, rfl, rfl, Nat.zero_le _, hP0, hmsZ, hbelZ⟩
            case round =>
              clear hbelZ hmsZ hP0 y5 hPre hPl hP
              obtain ⟨m, P, rfl, rfl, rfl, hm, hP, hms, hbel⟩ := hrel
              have hPl := pre_len (pre_in (m := m) hx.out hins.out)
              rw [← hP.out, ← hR.out] at hPl
              have hsl := sumS_le R (seenQ P)
              by_cases hlt3 : m < ins.args.length
              · have hmi : (m : Int) < (ins.args.length : Int) := by omega
                obtain ⟨b5, o5, rfl, he5⟩ := ga5.out (by omega)
                obtain ⟨v, hv⟩ := get_ex (l := ins.args) (k := m) hlt3
                obtain ⟨_, _, ⟨rfl, _, hwv⟩, hat⟩ := he5 m v hv.out
                obtain ⟨p0, p1, p2⟩ := (hat.later hwWh.out hws).three
                clear he5 hat
                obtain ⟨V, hV, hwV, hVs, hvc⟩ := boxes1 wr #[.int .i64 v.kind, .int .i64 v.num, .int .u64 v.bits] 93
                have hbelV : Below W.heap.size W V := hbel.trans (hwV.mono hbel.size)
                have hmsV := hide (hms.out.of_heap (hwV.block M hms.out.lt))
                have y0 := hvc 0 _ rfl
                have y1 := hvc 1 _ rfl
                have hselfV := Below.refl V.heap.size V
                have hMw : M < wr.heap.size := hms.out.lt
                have hVs2 : wr.heap.size < V.heap.size := by omega
                have hnext := regsIn_take hv.out
                replace hwV := hide hwV
                replace hVs := hide hVs
                clear hvc
                go_upto_region 17 with (fail)
                try rw [hV]
                clear hV p0 p1 p2 hbel hms
                by_cases hk1 : v.kind = 1
                · have e1 : (v.kind != 1) = false := by rw [hk1]; rfl
                  rw [if_pos hk1] at hnext
                  have hP9 : Hid (P ++ [v.num] = regsL (before f.blocks k j) ++ regsIn (ins.args.take (m + 1))) := hide (by rw [hnext, ← List.append_assoc, ← hP.out])
                  have hPl9 := pre_len (pre_in (m := m + 1) hx.out hins.out)
                  rw [← hP9.out, ← hR.out, List.length_append] at hPl9
                  have hPl10 : P.length + 1 ≤ R.length := by simpa using hPl9
                  have hlen : Hid ((P ++ [v.num]).length = P.length + 1) := hide (by simp)
                  have hlook := hmsV.out.look hwv
                  clear hnext hk1 hPl9
                  cases hsq : seenQ P v.num with
                  | true =>
                    rw [hsq, if_pos rfl] at hlook
                    have hms9 : Hid (MSet V M (P ++ [v.num]).length (seenQ (P ++ [v.num]))) := hide (by rw [seen_old hsq, hlen.out]; exact hmsV.out.mono (Nat.le_succ _))
                    have hsum9 : Hid (sumS R (seenQ (P ++ [v.num])) = sumS R (seenQ P)) := hide (by rw [seen_old hsq])
                    replace hsq := hide hsq
                    go_wp2
                    go_roundw
                    case rel => exact ⟨m + 1, P ++ [v.num], by go_num, by rw [hlen.out]; go_num, by rw [hsum9.out], hlt3, hP9, hms9, hbelV⟩
                    case measure => simp [intOf]; omega
                  | false =>
                    rw [hsq, if_neg (by decide)] at hlook
                    obtain ⟨V2, hrun2, hm2, hg2⟩ := MSet.store hmsV.out (by unfold maxLen; omega) hwv
                    have hbel2 : Below W.heap.size W V2 := hbelV.trans (hg2.to_below (fun q hq => by have e : q = M := hq; omega) hbelV.size)
                    have y9 : V2.cell? ⟨wr.heap.size, 1, none⟩ = some (.int .i64 v.num) := (hg2.cell (p := ⟨wr.heap.size, 1, none⟩) hVs2 (fun e => by have e' : wr.heap.size = M := e; omega)).trans (y1 V hselfV)
                    have hm2' : Hid (MSet V2 M (P ++ [v.num]).length (seenQ (P ++ [v.num]))) := hide (by rw [seen_new, hlen.out]; exact hm2)
                    have hsum9 : Hid (sumS R (seenQ (P ++ [v.num])) = sumS R (seenQ P) + R.count v.num) := hide (seen_sum hsq)
                    have hsl9 := sumS_le R (seenQ (P ++ [v.num]))
                    rw [hsum9.out] at hsl9
                    have hb2s := hbel2.size
                    replace hsq := hide hsq
                    replace hg2 := hide hg2
                    replace hm2 := hide hm2
                    go_wp2_with (fail)
                    refine (cU.out v.num V2 hbel2).mono ?_
                    rintro e V3 ⟨rfl, hb3⟩
                    have hbel3 := hbel2.trans (hb3.mono hb2s)
                    have hms3 := hide (hm2'.out.of_heap (hb3.block M hm2'.out.lt))
                    clear hb3 hbel2
                    go_wp2
                    go_roundw
                    case rel => exact ⟨m + 1, P ++ [v.num], by go_num, by rw [hlen.out]; go_num, by rw [hsum9.out]; go_num, hlt3, hP9, hms3, hbel3⟩
                    case measure => simp [intOf]; omega
                · have e1 : (v.kind != 1) = true := by rw [bne_iff_ne]; exact hk1
                  rw [if_neg hk1, List.append_nil] at hnext
                  have hP9 : Hid (P = regsL (before f.blocks k j) ++ regsIn (ins.args.take (m + 1))) := hide (by rw [hnext]; exact hP.out)
                  clear hnext hk1
                  go_wp2
                  go_roundw
                  case rel => exact ⟨m + 1, P, by go_num, rfl, rfl, hlt3, hP9, hmsV, hbelV⟩
                  case measure => simp [intOf]; omega
              · obtain rfl : m = ins.args.length := by omega
                have hP9 : Hid (P = regsL (before f.blocks k (j + 1))) := hide (by rw [hP.out]; exact pre_in_end hx.out hins.out)
                go_wp2
                go_roundw
                case rel => exact ⟨j + 1, P, by go_num, rfl, rfl, hlt2, hP9, hms, hbel⟩
                case measure => simp [intOf]; omega
          · obtain rfl : j = x.length := by omega
            have hP9 : Hid (P = regsL (before f.blocks (k + 1) 0)) := hide (by rw [hP.out, before_next hx.out])
            go_wp2
            go_roundw
            case rel => exact ⟨k + 1, P, by go_num, rfl, rfl, hlt, hP9, hms, hbel⟩
            case measure => simp [intOf]; omega
      · obtain rfl : k = n := by omega
        have hPR : P = R := by rw [hP.out, hR.out, hn.out, before_end]
        have hsumE : sumS R (seenQ P) = P.length := by rw [hPR]; exact seen_all R
        have hPl : P.length ≤ 2000000 := by rw [hPR]; exact hRl
        rw [hsumE]
        have hPRh := hide hPR
        replace hsumE := hide hsumE
        clear hPR hms
        by_cases hro2 : reg = other
        · have e1 : (reg == other) = true := by rw [beq_iff_eq]; exact hro2
          replace hro2 := hide hro2
          go_wp2
          go_ret
          exact ⟨rfl, hwWh.out.trans (hbel.mono hws)⟩
        · have e1 : (reg == other) = false := by rw [beq_eq_false_iff_ne]; exact hro2
          have hne : Hid (other ≠ reg) := hide (fun e => hro2 e.symm)
          have cP := hide (replace_any f reg ⟨1, other, 0⟩ ⟨(by show I64 1; decide), hro⟩ (.slice A1 f.params.length k1) (.slice A2 k k2) wr wr.heap.size (Nat.le_refl _) (hF.out wr hbel) hsm.out)
          have hbs := hbel.size
          replace hro2 := hide hro2
          go_wp2_with (fail)
          refine cP.out.mono ?_
          rintro e w4 ⟨cg, dg, L, rfl, hOI, -, hOK, -, hb4⟩
          obtain ⟨Ag, Cg, hcg⟩ := row_form hOI.row
          subst hcg
          obtain ⟨Dg, Eg, hdg⟩ := hOK.form
          rw [show (subAll (rsub reg ⟨1, other, 0⟩) f.blocks).length = k by rw [hn.out]; simp [subAll]] at hdg
          subst hdg
          have hgr : RFun.rep w4 w4.heap.size [.string f.name, .slice Ag f.params.length Cg, .int .i64 f.ret, .slice Dg k Eg] (setBlocks f (subAll (rsub reg ⟨1, other, 0⟩) f.blocks)) := by
            obtain ⟨_, _, _, -, -, hret, hnm⟩ := hfh.out
            obtain ⟨xs, ess, hK⟩ := hOK
            exact ⟨_, _, rfl, hOI.rep, hK.own.rep, hret, hnm⟩
          have hbel4 := hbel.trans (hb4.mono hbs)
          have hs4 := hbel4.size
          replace hOI := hide hOI
          replace hOK := hide hOK
          clear cP hb4
          go_upto_region 28 with (fail)
          obtain ⟨Y, hY, hwY, hYs, hy⟩ := boxes1 w4 #[.string f.name, .slice Ag f.params.length Cg, .int .i64 f.ret, .slice Dg k Eg] 41
          have hwYW : Hid (Below W.heap.size W Y) := hide (hbel4.trans (hwY.mono hs4))
          have hYss : Hid (W.heap.size ≤ Y.heap.size) := hide hwYW.out.size
          have m0 : ∀ w', Below Y.heap.size Y w' → w'.cell? ⟨w4.heap.size, 0, none⟩ = some (.string f.name) := hy 0 _ rfl
          have m1 : ∀ w', Below Y.heap.size Y w' → w'.cell? ⟨w4.heap.size, 1, none⟩ = some (.slice Ag f.params.length Cg) := hy 1 _ rfl
          have m2 : ∀ w', Below Y.heap.size Y w' → w'.cell? ⟨w4.heap.size, 2, none⟩ = some (.int .i64 f.ret) := hy 2 _ rfl
          have m3 : ∀ w', Below Y.heap.size Y w' → w'.cell? ⟨w4.heap.size, 3, none⟩ = some (.slice Dg k Eg) := hy 3 _ rfl
          have z0 : ∀ w', Below Y.heap.size Y w' → w'.cell? ⟨w.heap.size, 0, none⟩ = some (.string f.name) := fun w' h => q0 w' (hwYW.out.trans (h.mono hYss.out))
          have z1 : ∀ w', Below Y.heap.size Y w' → w'.cell? ⟨w.heap.size, 1, none⟩ = some (.slice A1 f.params.length k1) := fun w' h => q1 w' (hwYW.out.trans (h.mono hYss.out))
          have z2 : ∀ w', Below Y.heap.size Y w' → w'.cell? ⟨w.heap.size, 2, none⟩ = some (.int .i64 f.ret) := fun w' h => q2 w' (hwYW.out.trans (h.mono hYss.out))
          have z3 : ∀ w', Below Y.heap.size Y w' → w'.cell? ⟨w.heap.size, 3, none⟩ = some (.slice A2 k k2) := fun w' h => q3 w' (hwYW.out.trans (h.mono hYss.out))
          have hgY : Hid (∀ w', Below Y.heap.size Y w' → RFun.rep w' w'.heap.size [.string f.name, .slice Ag f.params.length Cg, .int .i64 f.ret, .slice Dg k Eg] (setBlocks f (subAll (rsub reg ⟨1, other, 0⟩) f.blocks))) := hide (fun w' h => RFun.later hgr (hwY.trans (h.mono hwY.size)) (hwY.trans (h.mono hwY.size)).size)
          have hus := usesL_sub 0 hne.out f.blocks
          rw [usesL_count f.blocks.flatten, usesL_count f.blocks.flatten, ← hR.out] at hus
          obtain ⟨hus1, hus2⟩ := hus
          have hag : argsL (subAll (rsub reg ⟨1, other, 0⟩) f.blocks).flatten ≤ 2000000 := by rw [sub_flat, argsL_sub]; exact hal2.out
          obtain ⟨N, hN⟩ : ∃ N, Hid (N = f.blocks.flatten.length) := ⟨_, hide rfl⟩
          have hfg : (subAll (rsub reg ⟨1, other, 0⟩) f.blocks).flatten.length = N := by rw [sub_flat, List.length_map, hN.out]
          have hN8 : N ≤ 2000000 := by rw [hN.out]; exact hfl
          have cg1 : Hid (∀ w', Below Y.heap.size Y w' → Calls Try.prog 38 #[f.v (.slice Ag f.params.length Cg) (.slice Dg k Eg), .int .i64 other] w' fun e w'' => e = .returned (.int .i64 ((R.count other + R.count reg : Nat) : Int)) ∧ Below w'.heap.size w' w'') := hide (fun w' h => by
            obtain ⟨hp, hb⟩ := fun_open (x := setBlocks f (subAll (rsub reg ⟨1, other, 0⟩) f.blocks)) (hgY.out w' h)
            have := uses_any (setBlocks f (subAll (rsub reg ⟨1, other, 0⟩) f.blocks)) other (.slice Ag f.params.length Cg) (.slice Dg k Eg) w' w'.heap.size (Nat.le_refl _) hp hb (Nat.le_trans hag (by omega))
            rw [show iuses (setBlocks f (subAll (rsub reg ⟨1, other, 0⟩) f.blocks)) other = R.count other + R.count reg from hus1] at this
            exact this)
          have cg2 : Hid (∀ w', Below Y.heap.size Y w' → Calls Try.prog 38 #[f.v (.slice Ag f.params.length Cg) (.slice Dg k Eg), .int .i64 reg] w' fun e w'' => e = .returned (.int .i64 0) ∧ Below w'.heap.size w' w'') := hide (fun w' h => by
            obtain ⟨hp, hb⟩ := fun_open (x := setBlocks f (subAll (rsub reg ⟨1, other, 0⟩) f.blocks)) (hgY.out w' h)
            have := uses_any (setBlocks f (subAll (rsub reg ⟨1, other, 0⟩) f.blocks)) reg (.slice Ag f.params.length Cg) (.slice Dg k Eg) w' w'.heap.size (Nat.le_refl _) hp hb (Nat.le_trans hag (by omega))
            rw [show iuses (setBlocks f (subAll (rsub reg ⟨1, other, 0⟩) f.blocks)) reg = 0 from hus2] at this
            exact this)
          have cg3 : Hid (∀ w', Below Y.heap.size Y w' → Calls Try.prog 35 #[f.v (.slice Ag f.params.length Cg) (.slice Dg k Eg)] w' fun e w'' => e = .returned (.int .i64 (N : Int)) ∧ Below w'.heap.size w' w'') := hide (fun w' h => by
            obtain ⟨hp, hb⟩ := fun_open (x := setBlocks f (subAll (rsub reg ⟨1, other, 0⟩) f.blocks)) (hgY.out w' h)
            have := size_any (setBlocks f (subAll (rsub reg ⟨1, other, 0⟩) f.blocks)) (.slice Ag f.params.length Cg) (.slice Dg k Eg) w' w'.heap.size (Nat.le_refl _) hp hb (by rw [show (setBlocks f (subAll (rsub reg ⟨1, other, 0⟩) f.blocks)).blocks.flatten.length = N from hfg]; omega)
            rw [show (setBlocks f (subAll (rsub reg ⟨1, other, 0⟩) f.blocks)).blocks.flatten.length = N from hfg] at this
            exact this)
          have cU2 : Hid (∀ (r : Int) w', Below Y.heap.size Y w' → Calls Try.prog 38 #[f.v (.slice A1 f.params.length k1) (.slice A2 k k2), .int .i64 r] w' fun e w'' => e = .returned (.int .i64 ((R.count r : Nat) : Int)) ∧ Below w'.heap.size w' w'') := hide (fun r w' h => cU.out r w' (hwYW.out.trans (h.mono hYss.out)))
          have cL2 : Hid (∀ w', Below Y.heap.size Y w' → Calls Try.prog 35 #[f.v (.slice A1 f.params.length k1) (.slice A2 k k2)] w' fun e w'' => e = .returned (.int .i64 (N : Int)) ∧ Below w'.heap.size w' w'') := hide (fun w' h => by have := cL.out w' (hwYW.out.trans (h.mono hYss.out)); rwa [← hN.out] at this)
          have hc1 : R.count other ≤ R.length := List.count_le_length
          have hc2 : R.count reg ≤ R.length := List.count_le_length
          obtain ⟨n1, hn1⟩ : ∃ n1, Hid (n1 = R.count other) := ⟨_, hide rfl⟩
          obtain ⟨n2, hn2⟩ : ∃ n2, Hid (n2 = R.count reg) := ⟨_, hide rfl⟩
          rw [← hn1.out] at hc1 cg1
          rw [← hn2.out] at hc2 cg1
          have cUo := hide (cU2.out other)
          have cUr := hide (cU2.out reg)
          rw [← hn1.out] at cUo
          rw [← hn2.out] at cUr
          obtain ⟨ns, hns⟩ : ∃ ns, Hid (ns = n1 + n2) := ⟨_, hide rfl⟩
          rw [← hns.out] at cg1
          have hs9 : (n1 : Int) + (n2 : Int) = (ns : Int) := by rw [hns.out]; omega
          have hs8 : ns ≤ 4000000 := by rw [hns.out]; omega
          have hw9 : IntKind.i64.wrap (ns : Int) = (ns : Int) := by simp [IntKind.wrap, IntKind.bits, IntKind.signed]; omega
          try rw [hY]
          have hwYw : Hid (Below w.heap.size w Y) := hide (hwWh.out.trans (hwYW.out.mono hws))
          have hselfY := Below.refl Y.heap.size Y
          clear hY hy hwY hYs hgr hbel4 hs4 hbel hbs q0 q1 q2 q3 hself cU cL cU2 hF
          go_region_held3 (fun w' => Below Y.heap.size Y w') (first | (with_reducible assumption) | exact hselfY.drew)
            (first
              | (go_at_call 38; refine (cg2.out _ hk3).mono ?_; rintro e u4 ⟨rfl, hb4⟩; have hk4 : Below Y.heap.size Y u4 := hk3.trans (hb4.mono hk3.size); clear hb4)
              | (go_at_call 38; refine (cUr.out _ hk2).mono ?_; rintro e u3 ⟨rfl, hb3⟩; have hk3 : Below Y.heap.size Y u3 := hk2.trans (hb3.mono hk2.size); clear hb3)
              | (go_at_call 38; refine (cUo.out _ hk1).mono ?_; rintro e u2 ⟨rfl, hb2⟩; have hk2 : Below Y.heap.size Y u2 := hk1.trans (hb2.mono hk1.size); clear hb2)
              | (go_at_call 38; refine (cg1.out _ (hselfY.drew)).mono ?_; rintro e u1 ⟨rfl, hb1⟩; have hk1 : Below Y.heap.size Y u1 := (hselfY.drew).trans hb1; clear hb1)
              | (go_at_call 35; refine (cL2.out _ hk5).mono ?_; rintro e u6 ⟨rfl, hb6⟩; have hk6 : Below Y.heap.size Y u6 := hk5.trans (hb6.mono hk5.size); clear hb6)
              | (go_at_call 35; refine (cg3.out _ hk4).mono ?_; rintro e u5 ⟨rfl, hb5⟩; have hk5 : Below Y.heap.size Y u5 := hk4.trans (hb5.mono hk4.size); clear hb5))
          go_wp2
          go_ret
          exact ⟨rfl, hwYw.out.trans (hk6.mono hwYw.out.size)⟩
end Go.Proofs.Ytffklfalocamiaa
