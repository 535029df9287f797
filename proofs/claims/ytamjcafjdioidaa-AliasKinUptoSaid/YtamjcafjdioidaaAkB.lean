/- The law AliasKin, walked. No condition but sizes. -/
import Derived.Test.YtamjcafjdioidaaAkA
namespace Go.Proofs.Ytamjcafjdioidaa
open Go.RowKit
set_option linter.unusedSimpArgs false
set_option linter.unusedVariables false

set_option maxRecDepth 100000 in
set_option maxHeartbeats 6400000 in
theorem law_alias_kin (m : Mod) (m1 m2 m3 : Value) (w : World) (ha : RMod.rep w w.heap.size [m1, m2, m3] m) (hsz : ∀ f, f ∈ m.funcs → funSz f ≤ 2000000) :
    Calls Try.prog 3 #[m.v m1 m2 m3] w (RetB true w) := by
  obtain ⟨M1, v1, j1, M2, v2, j2, M3, v3, j3, hmf⟩ := mod_forms ha
  obtain ⟨e1, e2, e3⟩ := hmf
  subst e1 e2 e3
  obtain ⟨A5, k5, hM3, hl5, gf⟩ := funs_at (mod_open (RMod.later ha (Below.refl _ _) (Nat.le_refl _))).2.2
  have hv3 : v3 = m.funcs.length := by cases hM3; rfl
  have hM3' : M3 = A5 ∧ j3 = k5 := by cases hM3; exact ⟨rfl, rfl⟩
  obtain ⟨e1, e2⟩ := hM3'
  subst e1 e2
  clear hM3
  rw [← hv3] at hl5 gf
  replace gf := hide gf
  replace hv3 := hide hv3
  obtain ⟨W, hW, hwW, hWs, hx⟩ := boxes1 w #[.slice M1 v1 j1, .slice M2 v2 j2, .slice M3 v3 j3] 26
  have p0 : ∀ w', Below W.heap.size W w' → w'.cell? ⟨w.heap.size, 0, none⟩ = some (.slice M1 v1 j1) := hx 0 _ rfl
  have p1 : ∀ w', Below W.heap.size W w' → w'.cell? ⟨w.heap.size, 1, none⟩ = some (.slice M2 v2 j2) := hx 1 _ rfl
  have p2 : ∀ w', Below W.heap.size W w' → w'.cell? ⟨w.heap.size, 2, none⟩ = some (.slice M3 v3 j3) := hx 2 _ rfl
  clear hx
  have hws : w.heap.size ≤ W.heap.size := by omega
  replace hsz := hide hsz
  have hself := Below.refl W.heap.size W
  have hwX : Hid (∀ w', Below W.heap.size W w' → Below w.heap.size w w') := hide (fun w' h => hwW.trans (h.mono hws))
  obtain ⟨rb, hrb⟩ : ∃ rb, Hid (rb = rightB m) := ⟨_, hide rfl⟩
  have cR : Hid (∀ w', Below W.heap.size W w' → Calls Try.prog 8 #[m.v (.slice M1 v1 j1) (.slice M2 v2 j2) (.slice M3 v3 j3)] w' (RetB rb w')) := hide (fun w' h => by
    rw [hrb.out]
    exact right_any m _ _ _ w' w'.heap.size (Nat.le_refl _) (RMod.later ha (hwX.out w' h) (hwX.out w' h).size) hsz.out)
  replace ha := hide ha
  replace hWs := hide hWs
  replace hW := hide hW
  replace hwW := hide hwW
  have o64 : Hid (I64 1) := hide (i64_mk (by omega) (by omega))
  obtain ⟨i0, hi0, hz0, hz1, hz2⟩ := cinfo_parts cinfo_int
  replace hi0 := hide hi0
  replace hz0 := hide hz0
  replace hz1 := hide hz1
  replace hz2 := hide hz2
  go_enter Try.func3, Try.ntmps3
  go_upto_region 1 with (fail)
  rw [hW.out]
  clear hW
  go_wp2_with (fail)
  refine (lives18_any _).mono ?_
  rintro e w1 ⟨rfl, hb1⟩
  have hk1 := hself.trans (hb1.mono hself.size)
  clear hb1 hself
  go_wp2_with (fail)
  refine (cR.out _ hk1).mono ?_
  rintro e w2 ⟨rfl, hb2⟩
  have hk2 := hk1.trans (hb2.mono hk1.size)
  clear hb2 cR hk1
  cases rb with
  | false =>
    have hfin := hide (hwX.out _ hk2)
    go_wp2
    go_ret
    exact ⟨rfl, hfin.out⟩
  | true =>
    have hright : Hid (∀ f, f ∈ m.funcs → FunRight m f) := hide (fun f hf => right_fun hrb.out.symm hf)
    go_wp2
    go_loopw [32] (fun s wr => ∃ i : Nat, s = .int .i64 i ∧ i ≤ v3 ∧ Below W.heap.size W wr) (fun s _ => v3 - (intOf s).toNat)
    case atStart => exact ⟨0, rfl, Nat.zero_le _, hk2⟩
    case round =>
      clear hk2
      rename World => V
      obtain ⟨i, rfl, hi, hbel⟩ := hrel
      have hVs := hbel.size
      by_cases hlt : i < v3
      · have hii : (i : Int) < (v3 : Int) := by omega
        obtain ⟨f, hf⟩ := get_ex (l := m.funcs) (k := i) (by rw [← hv3.out]; exact hlt)
        obtain ⟨b1, o1, hA1, he⟩ := gf.out (by omega)
        subst hA1
        obtain ⟨cp, ep, hra, hc⟩ := he i f hf.out
        obtain ⟨hrp, hrb'⟩ := fun_open hra
        obtain ⟨A1, k1, h1, hnp, gp⟩ := Rp.slice1_open hrp
        obtain ⟨A2, k2, h2, hmb, gb⟩ := Rp.slice1_open hrb'
        cases h1; cases h2
        have hfz := hide (hsz.out f (List.mem_of_getElem? hf.out))
        have hfr := hide (hright.out f (List.mem_of_getElem? hf.out))
        have hzb : Hid (∀ x, x ∈ f.blocks → x.length ≤ 2000000) := hide (fun x hx => ((small_of hfz.out).code x hx).1)
        obtain ⟨np, hnpe⟩ : ∃ np, Hid (np = f.params.length) := ⟨_, hide rfl⟩
        obtain ⟨N, hN⟩ : ∃ N, Hid (N = f.blocks.length) := ⟨_, hide rfl⟩
        rw [← hnpe.out, ← hN.out] at hra hc
        rw [← hnpe.out] at hnp
        rw [← hN.out] at hmb
        replace gp := hide gp
        replace gb := hide gb
        obtain ⟨s0, s1, s2, s3⟩ := hc.four
        have s0 := s0 V (hwX.out V hbel)
        have s1 := s1 V (hwX.out V hbel)
        have s2 := s2 V (hwX.out V hbel)
        have s3 := s3 V (hwX.out V hbel)
        obtain ⟨Z, hZ, hwZ, hZs, hzc⟩ := boxes1 V #[.string f.name, .slice A1 np k1, .int .i64 f.ret, .slice A2 N k2] 32
        have t0 : ∀ w', Below Z.heap.size Z w' → w'.cell? ⟨V.heap.size, 0, none⟩ = some (.string f.name) := hzc 0 _ rfl
        have t1 : ∀ w', Below Z.heap.size Z w' → w'.cell? ⟨V.heap.size, 1, none⟩ = some (.slice A1 np k1) := hzc 1 _ rfl
        have t2 : ∀ w', Below Z.heap.size Z w' → w'.cell? ⟨V.heap.size, 2, none⟩ = some (.int .i64 f.ret) := hzc 2 _ rfl
        have t3 : ∀ w', Below Z.heap.size Z w' → w'.cell? ⟨V.heap.size, 3, none⟩ = some (.slice A2 N k2) := hzc 3 _ rfl
        have hbZ : Below W.heap.size W Z := hbel.trans (hwZ.mono hVs)
        have hZW : Hid (∀ w', Below Z.heap.size Z w' → Below W.heap.size W w') := hide (fun w' h => hbZ.trans (h.mono hbZ.size))
        have hZw : Hid (∀ w', Below Z.heap.size Z w' → Below w.heap.size w w') := hide (fun w' h => hwX.out w' (hZW.out w' h))
        have hF : Hid (∀ w', Below Z.heap.size Z w' → RFun.rep w' w'.heap.size [.string f.name, .slice A1 np k1, .int .i64 f.ret, .slice A2 N k2] f) := hide (fun w' h => RFun.later hra (hZw.out w' h) (hZw.out w' h).size)
        obtain ⟨lb, hlb⟩ : ∃ lb, Hid (lb = long18F f) := ⟨_, hide rfl⟩
        have cL : Hid (∀ w', Below Z.heap.size Z w' → Calls Try.prog 9 #[f.v (.slice A1 np k1) (.slice A2 N k2)] w' (RetB lb w')) := hide (fun w' h => by
          have := long18_any f (.slice A1 np k1) (.slice A2 N k2) w' w'.heap.size (Nat.le_refl _) (hF.out w' h) hfz.out
          rwa [← hlb.out] at this)
        have cA : Hid (∀ (p q : Opd) (t u z : Int), I64 p.kind ∧ I64 p.num → I64 q.kind ∧ I64 q.num → askS f.params.length f.blocks p t q u = z → ∀ w', Below Z.heap.size Z w' → Calls Try.prog 11 #[f.v (.slice A1 np k1) (.slice A2 N k2), .agg #[.int .i64 p.kind, .int .i64 p.num, .int .u64 p.bits], .int .i64 t, .agg #[.int .i64 q.kind, .int .i64 q.num, .int .u64 q.bits], .int .i64 u] w' (RetV (.int .i64 z) w')) := hide (fun p q t u z hp hq hz w' h => by
          have := asked_any f p q t u hp hq (.slice A1 np k1) (.slice A2 N k2) w' w'.heap.size (Nat.le_refl _) (hF.out w' h) hfz.out
          rwa [hz] at this)
        have cE : Hid (∀ (r : Int) w', I64 r → Below Z.heap.size Z w' → Calls Try.prog 12 #[f.v (.slice A1 np k1) (.slice A2 N k2), .int .i64 r] w' (RetB (escS f.blocks r) w')) := hide (fun r w' h h' => escapes_any f r h (.slice A1 np k1) (.slice A2 N k2) w' w'.heap.size (Nat.le_refl _) (hF.out w' h') hfz.out)
        have cRt : Hid (∀ (v : Opd) w', I64 v.kind ∧ I64 v.num → Below Z.heap.size Z w' → Calls Try.prog 10 #[f.v (.slice A1 np k1) (.slice A2 N k2), .agg #[.int .i64 v.kind, .int .i64 v.num, .int .u64 v.bits]] w' (RootPost f.blocks v w')) := hide (fun v w' h h' => root_any f v h (.slice A1 np k1) (.slice A2 N k2) w' w'.heap.size (Nat.le_refl _) (hF.out w' h') hfz.out)
        have hselfZ := Below.refl Z.heap.size Z
        replace hra := hide hra
        replace hrp := hide hrp
        replace hrb' := hide hrb'
        replace hwZ := hide hwZ
        replace hZs := hide hZs
        replace hZ := hide hZ
        clear he hc hzc hF
        go_upto_region 8 with (fail)
        rw [hZ.out]
        clear hZ s0 s1 s2 s3
        go_wp2_with (fail)
        refine (cL.out _ hselfZ).mono ?_
        rintro e U ⟨rfl, hbU⟩
        have hkU := hselfZ.trans (hbU.mono hselfZ.size)
        clear hbU cL hselfZ
        cases lb with
        | true =>
          have hfx := hZW.out _ hkU
          go_wp2
          go_roundw
          case rel => exact ⟨i + 1, by go_num, hlt, hfx⟩
          case measure => simp [intOf]; omega
        | false =>
          have hUs := hkU.size
          have hUZ : Hid (∀ w', Below U.heap.size U w' → Below Z.heap.size Z w') := hide (fun w' h => hkU.trans (h.mono hUs))
          have hUw : Hid (∀ w', Below U.heap.size U w' → Below w.heap.size w w') := hide (fun w' h => hZw.out w' (hUZ.out w' h))
          have r0 : ∀ w', Below U.heap.size U w' → w'.cell? ⟨V.heap.size, 0, none⟩ = some (.string f.name) := fun w' h => t0 w' (hUZ.out w' h)
          have r1 : ∀ w', Below U.heap.size U w' → w'.cell? ⟨V.heap.size, 1, none⟩ = some (.slice A1 np k1) := fun w' h => t1 w' (hUZ.out w' h)
          have r2 : ∀ w', Below U.heap.size U w' → w'.cell? ⟨V.heap.size, 2, none⟩ = some (.int .i64 f.ret) := fun w' h => t2 w' (hUZ.out w' h)
          have r3 : ∀ w', Below U.heap.size U w' → w'.cell? ⟨V.heap.size, 3, none⟩ = some (.slice A2 N k2) := fun w' h => t3 w' (hUZ.out w' h)
          have hself := Below.refl U.heap.size U
          have hst : Hid (OwnI U U.heap.size (.slice none 0 0) []) := hide OwnI.nil_
          have hq0 : Hid ([] = alR (before f.blocks 0 0)) := hide (by rw [before_zero]; rfl)
          have hnd0 : Hid (([] : List Int).Nodup) := hide List.nodup_nil
          clear t0 t1 t2 t3 hkU
          go_wp2
          go_loopw [5, 41] (fun s5 s wr => ∃ (k : Nat) (A : Option Addr) (C : Nat) (q : List Int), s = .int .i64 k ∧ s5 = .slice A q.length C ∧ k ≤ N ∧ Hid (q = alR (before f.blocks k 0)) ∧ Hid (q.Nodup) ∧ Hid (OwnI wr U.heap.size (.slice A q.length C) q) ∧ Below U.heap.size U wr) (fun _ s _ => N - (intOf s).toNat)
          case atStart => exact ⟨0, none, 0, [], rfl, rfl, Nat.zero_le _, hq0, hnd0, hst, hself⟩
          case round =>
            clear hst hq0 hnd0 hself
            rename World => V1
            obtain ⟨k, A, C, q, rfl, rfl, hk, hqe, hnd, hrow, hbV1⟩ := hrel
            have hV1s := hbV1.size
            by_cases hltk : k < N
            · have hkk : (k : Int) < (N : Int) := by omega
              obtain ⟨x, hx⟩ := get_ex (l := f.blocks) (k := k) (by rw [← hN.out]; exact hltk)
              have hxl : x.length ≤ 2000000 := hzb.out x (List.mem_of_getElem? hx.out)
              obtain ⟨b2, o2, hA2, he1⟩ := gb.out (by rw [← hN.out]; omega)
              subst hA2
              obtain ⟨d1, hr1, hd1⟩ := he1 k x hx.out
              obtain ⟨A3, c3, h3, hm3, ga⟩ := Rp.slice_open hr1
              cases h3
              replace ga := hide ga
              have hd1V := hd1 V1 (hUw.out V1 hbV1)
              obtain ⟨lx, hlx⟩ : ∃ lx, Hid (lx = x.length) := ⟨_, hide rfl⟩
              rw [← hlx.out] at hxl hd1V hm3
              clear hd1 hr1 he1
              have hb0 : Below U.heap.size U (V1.alloc (.cells #[.slice A3 lx c3] 36)) := hbV1.alloc hV1s _
              have hrow0 := hide (hrow.out.below ((Below.refl V1.heap.size V1).alloc (Nat.le_refl _) (.cells #[.slice A3 lx c3] 36)))
              clear hrow hbV1
              go_wp2
              go_loopw [5, 48] (fun s5 s wr => ∃ (j : Nat) (A : Option Addr) (C : Nat) (q : List Int), s = .int .i64 j ∧ s5 = .slice A q.length C ∧ j ≤ lx ∧ Hid (q = alR (before f.blocks k j)) ∧ Hid (q.Nodup) ∧ Hid (OwnI wr U.heap.size (.slice A q.length C) q) ∧ Below U.heap.size U wr) (fun _ s _ => lx - (intOf s).toNat)
              case atStart => exact ⟨0, A, C, q, rfl, rfl, Nat.zero_le _, hqe, hnd, hrow0, hb0⟩
              case round =>
                clear hqe hnd hrow0 hb0
                rename World => V2
                obtain ⟨j, Ar, kr, r, rfl, rfl, hj, hqe, hnd, hrow, hbel⟩ := hrel
                have hV2s := hbel.size
                by_cases hltj : j < lx
                · have hjj : (j : Int) < (lx : Int) := by omega
                  obtain ⟨b3, o3, hA3, he3⟩ := ga.out (by rw [← hlx.out]; omega)
                  subst hA3
                  obtain ⟨ins, hins⟩ := get_ex (l := x) (k := j) (by rw [← hlx.out]; exact hltj)
                  obtain ⟨_, _, ⟨a1, a2, rfl, ha, hto, -, hokr, -⟩, hc⟩ := he3 j ins hins.out
                  obtain ⟨A5, k5, h5, hm5, gg⟩ := Rp.slice_open ha
                  obtain ⟨A6, k6, h6, hm6, -⟩ := Rp.slice1_open hto
                  cases h5; cases h6
                  replace gg := hide gg
                  have hbV := hUw.out V2 hbel
                  obtain ⟨e0, e1, e2, e3, e4, e5, e6⟩ := hc.seven
                  replace e0 := e0 V2 hbV
                  replace e1 := e1 V2 hbV
                  replace e2 := e2 V2 hbV
                  replace e3 := e3 V2 hbV
                  replace e4 := e4 V2 hbV
                  replace e5 := e5 V2 hbV
                  replace e6 := e6 V2 hbV
                  replace hokr := hide hokr
                  clear he3 ha hto hc
                  obtain ⟨na, hna⟩ : ∃ na, Hid (na = ins.args.length) := ⟨_, hide rfl⟩
                  rw [← hna.out] at e5 hm5
                  obtain ⟨Y, hY, hwY, hYs, hy, hz⟩ := boxes2 V2 #[.int .i64 ins.op, .int .i64 ins.reg, .int .i64 ins.ty, .int .i64 ins.num, .int .i64 ins.flags, .slice A5 na k5, .slice A6 ins.to.length k6] #[.int .i64 1, .int .i64 ins.reg, .int .u64 0] 39 42
                  have hbY : Below U.heap.size U Y := hbel.trans (hwY.mono hV2s)
                  have y0 : ∀ w', Below Y.heap.size Y w' → w'.cell? ⟨V2.heap.size, 0, none⟩ = some (.int .i64 ins.op) := hy 0 _ rfl
                  have y1 : ∀ w', Below Y.heap.size Y w' → w'.cell? ⟨V2.heap.size, 1, none⟩ = some (.int .i64 ins.reg) := hy 1 _ rfl
                  have y5 : ∀ w', Below Y.heap.size Y w' → w'.cell? ⟨V2.heap.size, 5, none⟩ = some (.slice A5 na k5) := hy 5 _ rfl
                  have z0 : ∀ w', Below Y.heap.size Y w' → w'.cell? ⟨V2.heap.size + 1, 0, none⟩ = some (.int .i64 1) := hz 0 _ rfl
                  have z1 : ∀ w', Below Y.heap.size Y w' → w'.cell? ⟨V2.heap.size + 1, 1, none⟩ = some (.int .i64 ins.reg) := hz 1 _ rfl
                  have z2 : ∀ w', Below Y.heap.size Y w' → w'.cell? ⟨V2.heap.size + 1, 2, none⟩ = some (.int .u64 0) := hz 2 _ rfl
                  have hselfY := Below.refl Y.heap.size Y
                  have hrowY := hide (hrow.out.below (hwY.mono (Nat.le_refl _)))
                  have hlenr : r.length ≤ 2000000 := by
                    have h1 := alR_len (before f.blocks k j)
                    obtain ⟨rr, h2⟩ := before_prefix (bs := f.blocks) (i := k) (j := j)
                    have h3 := congrArg List.length h2
                    rw [List.length_append] at h3
                    have h4 := insCount_le f
                    have h5 := hfz.out
                    rw [hqe.out]
                    omega
                  have hstep := before_step hx.out hins.out
                  replace hwY := hide hwY
                  replace hYs := hide hYs
                  replace hY := hide hY
                  clear hy hz hrow hbel
                  go_upto_region 18 with (fail)
                  rw [hY.out]
                  clear hY e0 e1 e2 e3 e4 e5 e6
                  by_cases h26 : ins.op = 26
                  · have g1 : (ins.op == 26) = true := by rw [h26]; rfl
                    have hqn : Hid (r ++ [ins.reg] = alR (before f.blocks k (j + 1))) := hide (by rw [hstep, alR_yes g1, hqe.out])
                    have hnn : Hid ((r ++ [ins.reg]).Nodup) := hide (by
                      have h1 := hnd.out
                      rw [hqe.out] at h1 ⊢
                      exact alR_step hfr.out hx.out hins.out h26 h1)
                    have hbI : Hid (I64 ins.reg) := hide hokr.out
                    replace hstep := hide hstep
                    replace h26 := hide h26
                    have hbs := hbY.size
                    go_wp2_with (first
                      | (at_builtin
                         refine wpList_append_own _ rfl (.tmp 59) (.tmp 62) _ rfl U.heap.size 3 i0 _ 1 8 Try.underlying29 hi0.out hz0.out hz1.out hz2.out rfl (by omega) (.slice Ar r.length kr) _ _ rfl (hrowY.out.row.alloc _) ⟨Y.heap.size, 0, none⟩ 1 1 [.int .i64 ins.reg] rfl rfl ?c1 ?c2 ?c3 ?c4 ?c5 ?_
                         case c1 => exact World.news_of_block (cs := #[.int .i64 ins.reg]) (t := 3) (fr := (0, 0)) (heap_alloc_new Y _)
                         case c2 => simp [Value.oneCell']
                         case c3 => unfold maxLen; omega
                         case c4 => omega
                         case c5 => first | (simp; omega) | simp | omega
                         intro q1 w1 hown1 hg1 _
                         have hbw1 : Below U.heap.size U w1 := (hbY.alloc hbs _).grown hg1 (by simp; omega) (fun k hk => (row_lt hrowY.out.row hk).1)
                         obtain ⟨A8, C8, hv8⟩ := row_form (OwnI.snoc hrowY.out.ok hbI.out hown1).row
                         have hL := hide (OwnI.snoc hrowY.out.ok hbI.out hown1)
                         subst hv8
                         replace hown1 := hide hown1
                         replace hg1 := hide hg1))
                    go_roundw
                    case rel => exact ⟨j + 1, A8, C8, r ++ [ins.reg], by go_num, by simp, hltj, hqn, hnn, hL, hbw1⟩
                    case measure => simp [intOf]; omega
                  · have g1 : (ins.op == 26) = false := by rw [beq_eq_false_iff_ne]; exact h26
                    have hqn : Hid (r = alR (before f.blocks k (j + 1))) := hide (by rw [hstep, alR_no g1, hqe.out])
                    replace hstep := hide hstep
                    replace h26 := hide h26
                    by_cases h29 : ins.op = 29
                    · have g2 : (ins.op == 29) = true := by rw [h29]; rfl
                      obtain ⟨a, c, hargs⟩ := right_gep hfr.out hx.out hins.out h29
                      have hna2 : na = 2 := by rw [hna.out, hargs]; rfl
                      subst hna2
                      obtain ⟨b5, o5, hA5, he5⟩ := gg.out (by rw [hargs]; simp)
                      subst hA5
                      have hYw : Hid (∀ w', Below Y.heap.size Y w' → Below w.heap.size w w') := hide (fun w' h => hUw.out w' (hbY.trans (h.mono hbY.size)))
                      obtain ⟨es5, hel5, hr5, hc5⟩ := he5 0 a (by rw [hargs]; rfl)
                      have ha64 := hide hr5.2
                      replace hr5 := hr5.1
                      subst hr5
                      obtain ⟨l0, l1, l2⟩ := hc5.three
                      obtain ⟨es6, hel6, hr6, hc6⟩ := he5 1 c (by rw [hargs]; rfl)
                      replace hr6 := hr6.1
                      subst hr6
                      obtain ⟨n0, n1, n2⟩ := hc6.three
                      replace l0 : ∀ w', Below Y.heap.size Y w' → w'.cell? ⟨b5, o5, none⟩ = some (.int .i64 a.kind) := fun w' h => by simpa using l0 w' (hYw.out w' h)
                      replace l1 : ∀ w', Below Y.heap.size Y w' → w'.cell? ⟨b5, o5 + 1, none⟩ = some (.int .i64 a.num) := fun w' h => by simpa using l1 w' (hYw.out w' h)
                      replace l2 : ∀ w', Below Y.heap.size Y w' → w'.cell? ⟨b5, o5 + 2, none⟩ = some (.int .u64 a.bits) := fun w' h => by simpa using l2 w' (hYw.out w' h)
                      replace n0 : ∀ w', Below Y.heap.size Y w' → w'.cell? ⟨b5, o5 + 3, none⟩ = some (.int .i64 c.kind) := fun w' h => by simpa using n0 w' (hYw.out w' h)
                      replace n2 : ∀ w', Below Y.heap.size Y w' → w'.cell? ⟨b5, o5 + 3 + 2, none⟩ = some (.int .u64 c.bits) := fun w' h => by simpa using n2 w' (hYw.out w' h)
                      clear he5 hc5 hc6 hel5 hel6 n1
                      obtain ⟨rv, ro, rk, hR⟩ : ∃ (rv : Opd) (ro : Int) (rk : Bool), Hid (rootS f.blocks ⟨1, ins.reg, 0⟩ = (rv, ro, rk)) := ⟨_, _, _, hide rfl⟩
                      obtain ⟨gv, gof, gk, hG⟩ : ∃ (gv : Opd) (gof : Int) (gk : Bool), Hid (rootS f.blocks a = (gv, gof, gk)) := ⟨_, _, _, hide rfl⟩
                      have hkin : Hid (gk = true → c.kind = 2 → rv = gv ∧ ro = wrap64 (gof + wrap64 c.bits) ∧ rk = true) := hide (fun h1 h2 => by
                        have h3 := kin_gep hfr.out hx.out hins.out h29 hargs h2 (by rw [hG.out]; exact h1)
                        rw [hR.out, hG.out] at h3
                        injection h3 with h4 h5
                        injection h5 with h5 h6
                        exact ⟨h4, h5, h6⟩)
                      have cM : Hid (∀ w', Below Y.heap.size Y w' → Calls Try.prog 10 #[f.v (.slice A1 np k1) (.slice (some ⟨b2, o2, none⟩) N k2), .agg #[.int .i64 1, .int .i64 ins.reg, .int .u64 0]] w' fun e w'' => e = .returned (.tuple #[.agg #[.int .i64 rv.kind, .int .i64 rv.num, .int .u64 rv.bits], .int .i64 ro, .bool rk]) ∧ Below w'.heap.size w' w'') := hide (fun w' h => by
                        refine (cRt.out ⟨1, ins.reg, 0⟩ w' ⟨o64.out, hokr.out⟩ (hUZ.out w' (hbY.trans (h.mono hbY.size)))).mono ?_
                        rintro e w9 ⟨rfl, -, h9⟩
                        rw [hR.out]
                        exact ⟨rfl, h9⟩)
                      have cG : Hid (∀ w', Below Y.heap.size Y w' → Calls Try.prog 10 #[f.v (.slice A1 np k1) (.slice (some ⟨b2, o2, none⟩) N k2), .agg #[.int .i64 a.kind, .int .i64 a.num, .int .u64 a.bits]] w' fun e w'' => e = .returned (.tuple #[.agg #[.int .i64 gv.kind, .int .i64 gv.num, .int .u64 gv.bits], .int .i64 gof, .bool gk]) ∧ Below w'.heap.size w' w'') := hide (fun w' h => by
                        refine (cRt.out a w' ha64.out (hUZ.out w' (hbY.trans (h.mono hbY.size)))).mono ?_
                        rintro e w9 ⟨rfl, -, h9⟩
                        rw [hG.out]
                        exact ⟨rfl, h9⟩)
                      replace h29 := hide h29
                      replace hargs := hide hargs
                      have v0 : ∀ w', Below Y.heap.size Y w' → w'.cell? ⟨V.heap.size, 0, none⟩ = some (.string f.name) := fun w' h => r0 w' (hbY.trans (h.mono hbY.size))
                      have v1' : ∀ w', Below Y.heap.size Y w' → w'.cell? ⟨V.heap.size, 1, none⟩ = some (.slice A1 np k1) := fun w' h => r1 w' (hbY.trans (h.mono hbY.size))
                      have v2' : ∀ w', Below Y.heap.size Y w' → w'.cell? ⟨V.heap.size, 2, none⟩ = some (.int .i64 f.ret) := fun w' h => r2 w' (hbY.trans (h.mono hbY.size))
                      have v3' : ∀ w', Below Y.heap.size Y w' → w'.cell? ⟨V.heap.size, 3, none⟩ = some (.slice (some ⟨b2, o2, none⟩) N k2) := fun w' h => r3 w' (hbY.trans (h.mono hbY.size))
                      go_wp2_with (fail)
                      refine (cM.out _ hselfY).mono ?_
                      rintro e X1 ⟨rfl, hb1⟩
                      obtain ⟨X2, hX2, hwX2, hX2s, hxc⟩ := boxes1 X1 #[.int .i64 rv.kind, .int .i64 rv.num, .int .u64 rv.bits] 42
                      have x0 := hxc 0 _ rfl
                      have x1 := hxc 1 _ rfl
                      have x2 := hxc 2 _ rfl
                      have hYX : Below Y.heap.size Y X2 := hb1.trans (hwX2.mono hb1.size)
                      have hYX9 : Hid (∀ w', Below X2.heap.size X2 w' → Below Y.heap.size Y w') := hide (fun w' h => hYX.trans (h.mono hYX.size))
                      replace hwX2 := hide hwX2
                      replace hX2s := hide hX2s
                      replace hX2 := hide hX2
                      clear hxc hb1
                      have hXs := hYX.size
                      have m0 : ∀ w', Below X2.heap.size X2 w' → w'.cell? ⟨V.heap.size, 0, none⟩ = some (.string f.name) := fun w' h => v0 w' (hYX9.out w' h)
                      have m1' : ∀ w', Below X2.heap.size X2 w' → w'.cell? ⟨V.heap.size, 1, none⟩ = some (.slice A1 np k1) := fun w' h => v1' w' (hYX9.out w' h)
                      have m2' : ∀ w', Below X2.heap.size X2 w' → w'.cell? ⟨V.heap.size, 2, none⟩ = some (.int .i64 f.ret) := fun w' h => v2' w' (hYX9.out w' h)
                      have m3' : ∀ w', Below X2.heap.size X2 w' → w'.cell? ⟨V.heap.size, 3, none⟩ = some (.slice (some ⟨b2, o2, none⟩) N k2) := fun w' h => v3' w' (hYX9.out w' h)
                      have y5' : ∀ w', Below X2.heap.size X2 w' → w'.cell? ⟨V2.heap.size, 5, none⟩ = some (.slice (some ⟨b5, o5, none⟩) 2 k5) := fun w' h => y5 w' (hYX9.out w' h)
                      have l0' : ∀ w', Below X2.heap.size X2 w' → w'.cell? ⟨b5, o5, none⟩ = some (.int .i64 a.kind) := fun w' h => l0 w' (hYX9.out w' h)
                      have l1' : ∀ w', Below X2.heap.size X2 w' → w'.cell? ⟨b5, o5 + 1, none⟩ = some (.int .i64 a.num) := fun w' h => l1 w' (hYX9.out w' h)
                      have l2' : ∀ w', Below X2.heap.size X2 w' → w'.cell? ⟨b5, o5 + 2, none⟩ = some (.int .u64 a.bits) := fun w' h => l2 w' (hYX9.out w' h)
                      have n0' : ∀ w', Below X2.heap.size X2 w' → w'.cell? ⟨b5, o5 + 3, none⟩ = some (.int .i64 c.kind) := fun w' h => n0 w' (hYX9.out w' h)
                      have n2' : ∀ w', Below X2.heap.size X2 w' → w'.cell? ⟨b5, o5 + 3 + 2, none⟩ = some (.int .u64 c.bits) := fun w' h => n2 w' (hYX9.out w' h)
                      have cG' : Hid (∀ w', Below X2.heap.size X2 w' → Calls Try.prog 10 #[f.v (.slice A1 np k1) (.slice (some ⟨b2, o2, none⟩) N k2), .agg #[.int .i64 a.kind, .int .i64 a.num, .int .u64 a.bits]] w' fun e w'' => e = .returned (.tuple #[.agg #[.int .i64 gv.kind, .int .i64 gv.num, .int .u64 gv.bits], .int .i64 gof, .bool gk]) ∧ Below w'.heap.size w' w'') := hide (fun w' h => cG.out w' (hYX9.out w' h))
                      have hselfX := Below.refl X2.heap.size X2
                      have hzaX : Below X2.heap.size X2 ((X2.alloc (.cells #[.int .i64 0, .int .i64 0, .int .u64 0] 42)).drew) := (hselfX.alloc (Nat.le_refl _) _).drew
                      have hzdX := hselfX.drew
                      clear v0 v1' v2' v3' y0 y1 y5 l0 l1 l2 n0 n2 cG cM r0 r1 r2 r3 hselfY hYX z0 z1 z2
                      go_upto_region 22 with (fail)
                      rw [hX2.out]
                      clear hX2
                      go_cut [14, 15, 16] (fun s14 s15 s16 wx => ∃ g : Nat, s14 = .pointer (some ⟨g, 0, none⟩) ∧ s15 = .int .i64 gof ∧ s16 = .bool gk ∧ wx.heap[g]? = some (.cells #[.int .i64 gv.kind, .int .i64 gv.num, .int .u64 gv.bits] 42 (0, 0)) ∧ X2.heap.size ≤ g ∧ Below X2.heap.size X2 wx)
                      case first =>
                        go_region_held3 (fun w' => Below X2.heap.size X2 w') (first | (with_reducible assumption) | ((repeat' with_reducible (first | assumption | exact hzdX | exact hzaX | exact Nat.le_refl _ | refine Below.drew ?_ | refine Below.setCell ?_ ?_ _ | refine Below.alloc ?_ ?_ _)) <;> (first | assumption | omega | (simp; omega) | simp)))
                          (first
                          | (go_at_call 10
                             refine (cG'.out _ (by first | with_reducible assumption | exact hselfX.drew | exact hselfX.drew.alloc hselfX.drew.size _ | exact (hselfX.alloc hselfX.size _).drew)).mono ?_
                             rintro e X5 ⟨rfl, hb5⟩
                             have hb5Z : Below X2.heap.size X2 X5 := (by first | exact hselfX.drew.trans (hb5.mono (Nat.le_refl _)) | exact ((hselfX.alloc (Nat.le_refl _) _).drew).trans (hb5.mono (by show X2.heap.size ≤ (X2.alloc _).heap.size; simp)))
                             have hs5 := hb5Z.size
                             first
                               | (have hq6 : X5.heap[X2.heap.size]? = some (.cells #[.int .i64 0, .int .i64 0, .int .u64 0] 42 (0, 0)) := (hb5.block X2.heap.size (by show X2.heap.size < (X2.alloc _).heap.size; simp)).trans (box_top X2 _)
                                  obtain ⟨a0, a1, a2⟩ := three_cells hq6
                                  have l0 := one_free (j := 0) hq6
                                  have l1 := one_free (j := 1) hq6
                                  have l2 := one_free (j := 2) hq6
                                  replace hq6 := hide hq6
                                  clear hb5)
                               | (clear hb5)))
                        all_goals go_wp2_with (fail)
                        all_goals go_meet
                        all_goals refine ⟨_, rfl, rfl, rfl, ?_, ?_, ?_⟩
                        all_goals first
                          | exact box_top _ _
                          | exact set_heap (j := 2) (set_heap (j := 1) (set_heap (j := 0) hq6.out))
                          | exact Nat.le_refl _
                          | exact hs5
                          | (repeat' with_reducible (first | assumption | exact Nat.le_refl _ | refine Below.drew ?_ | refine Below.setCell ?_ ?_ _ | refine Below.alloc ?_ ?_ _))
                      case rest =>
                        obtain ⟨g, rfl, rfl, rfl, hgc, hgz, hbX⟩ := hcut
                        rename World => X6
                        obtain ⟨k0, k1c, k2c⟩ := three_cells hgc
                        have hYX6 := hYX9.out X6 hbX
                        have hrow9 := hide (hrowY.out.below hYX6)
                        have hb9 : Below U.heap.size U X6 := hbY.trans (hYX6.mono hbY.size)
                        replace hgc := hide hgc
                        replace hYX6 := hide hYX6
                        cases gk with
                        | false =>
                          go_upto_region 23 with (fail)
                          go_cut [112] (fun s wx => s = .bool false ∧ wx = X6)
                          case first =>
                            go_wp2
                            go_meet
                            exact ⟨rfl, rfl⟩
                          case rest =>
                            obtain ⟨rfl, hw9⟩ := hcut
                            subst hw9
                            go_wp2
                            go_roundw
                            case rel => exact ⟨j + 1, Ar, kr, r, by go_num, rfl, hltj, hqn, hnd, hrow9, hb9⟩
                            case measure => simp [intOf]; omega
                        | true =>
                          by_cases hc2 : c.kind = 2
                          · have d2 : (c.kind == 2) = true := by rw [hc2]; rfl
                            obtain ⟨e1, e2, e3⟩ := hkin.out rfl hc2
                            subst e1 e2 e3
                            replace hc2 := hide hc2
                            go_upto_region 23 with (fail)
                            go_cut [112] (fun s wx => s = .bool false ∧ wx = X6)
                            case first =>
                              go_wp2
                              go_meet
                              exact ⟨by simp, rfl⟩
                            case rest =>
                              obtain ⟨rfl, hw9⟩ := hcut
                              subst hw9
                              go_wp2
                              go_roundw
                              case rel => exact ⟨j + 1, Ar, kr, r, by go_num, rfl, hltj, hqn, hnd, hrow9, hb9⟩
                              case measure => simp [intOf]; omega
                          · have d2 : (c.kind == 2) = false := by rw [beq_eq_false_iff_ne]; exact hc2
                            replace hc2 := hide hc2
                            go_upto_region 23 with (fail)
                            go_cut [112] (fun s wx => s = .bool false ∧ wx = X6)
                            case first =>
                              go_wp2
                              go_meet
                              exact ⟨rfl, rfl⟩
                            case rest =>
                              obtain ⟨rfl, hw9⟩ := hcut
                              subst hw9
                              go_wp2
                              go_roundw
                              case rel => exact ⟨j + 1, Ar, kr, r, by go_num, rfl, hltj, hqn, hnd, hrow9, hb9⟩
                              case measure => simp [intOf]; omega
                    · have g2 : (ins.op == 29) = false := by rw [beq_eq_false_iff_ne]; exact h29
                      replace h29 := hide h29
                      go_wp2
                      go_roundw
                      case rel => exact ⟨j + 1, Ar, kr, r, by go_num, rfl, hltj, hqn, hnd, hrowY, hbY⟩
                      case measure => simp [intOf]; omega
                · obtain rfl : j = lx := by omega
                  have hqn : Hid (r = alR (before f.blocks (k + 1) 0)) := hide (by rw [hqe.out, hlx.out, before_next hx.out])
                  go_wp2
                  go_roundw
                  case rel => exact ⟨k + 1, Ar, kr, r, by go_num, rfl, hltk, hqn, hnd, hrow, hbel⟩
                  case measure => simp [intOf]; omega
            · obtain rfl : N = k := by omega
              have hqf : Hid (q = alR f.blocks.flatten) := hide (by rw [hqe.out, hN.out, before_end])
              obtain ⟨A9, C9, hA9, har⟩ := int_reads hrow.out
              cases hA9
              replace har := hide har
              obtain ⟨n5, hn5⟩ : ∃ n5, Hid (n5 = q.length) := ⟨_, hide rfl⟩
              rw [← hn5.out]
              have hn5b : n5 ≤ 2000000 := by
                have h1 := alR_len f.blocks.flatten
                have h4 := flat_len f
                have h5 := hfz.out
                rw [hn5.out, hqf.out]
                omega
              have hVZ : Hid (∀ w', Below V1.heap.size V1 w' → Below Z.heap.size Z w') := hide (fun w' h => hUZ.out w' (hbV1.trans (h.mono hV1s)))
              have hVW : Hid (∀ w', Below V1.heap.size V1 w' → Below W.heap.size W w') := hide (fun w' h => hZW.out w' (hVZ.out w' h))
              have hVw : Hid (∀ w', Below V1.heap.size V1 w' → Below w.heap.size w w') := hide (fun w' h => hZw.out w' (hVZ.out w' h))
              have uc0 : ∀ w', Below V1.heap.size V1 w' → w'.cell? ⟨V.heap.size, 0, none⟩ = some (.string f.name) := fun w' h => r0 w' (hbV1.trans (h.mono hV1s))
              have uc1 : ∀ w', Below V1.heap.size V1 w' → w'.cell? ⟨V.heap.size, 1, none⟩ = some (.slice A1 np k1) := fun w' h => r1 w' (hbV1.trans (h.mono hV1s))
              have uc2 : ∀ w', Below V1.heap.size V1 w' → w'.cell? ⟨V.heap.size, 2, none⟩ = some (.int .i64 f.ret) := fun w' h => r2 w' (hbV1.trans (h.mono hV1s))
              have uc3 : ∀ w', Below V1.heap.size V1 w' → w'.cell? ⟨V.heap.size, 3, none⟩ = some (.slice A2 N k2) := fun w' h => r3 w' (hbV1.trans (h.mono hV1s))
              have cA1 : Hid (∀ (p q : Opd) (t u z : Int), I64 p.kind ∧ I64 p.num → I64 q.kind ∧ I64 q.num → askS f.params.length f.blocks p t q u = z → ∀ w', Below V1.heap.size V1 w' → Calls Try.prog 11 #[f.v (.slice A1 np k1) (.slice A2 N k2), .agg #[.int .i64 p.kind, .int .i64 p.num, .int .u64 p.bits], .int .i64 t, .agg #[.int .i64 q.kind, .int .i64 q.num, .int .u64 q.bits], .int .i64 u] w' (RetV (.int .i64 z) w')) := hide (fun p q t u z hp hq hz w' h => cA.out p q t u z hp hq hz w' (hVZ.out w' h))
              have cE1 : Hid (∀ (r : Int) w', I64 r → Below V1.heap.size V1 w' → Calls Try.prog 12 #[f.v (.slice A1 np k1) (.slice A2 N k2), .int .i64 r] w' (RetB (escS f.blocks r) w')) := hide (fun r w' h h' => cE.out r w' h (hVZ.out w' h'))
              have hokq : Hid (∀ x, x ∈ q → I64 x) := hide hrow.out.ok
              have hselfV := Below.refl V1.heap.size V1
              clear hrow hbV1 r0 r1 r2 r3 cA cE cRt hV1s
              go_wp2
              go_loopw [117] (fun s wr => ∃ i : Nat, s = .int .i64 i ∧ i ≤ n5 ∧ Below V1.heap.size V1 wr) (fun s _ => n5 - (intOf s).toNat)
              case atStart => exact ⟨0, rfl, Nat.zero_le _, hselfV⟩
              case round =>
                clear hselfV
                rename World => V2
                obtain ⟨i1, rfl, hi1, hb2⟩ := hrel
                have hV2s := hb2.size
                by_cases hlt1 : i1 < n5
                · have hii1 : (i1 : Int) < (n5 : Int) := by omega
                  obtain ⟨ra, hra1⟩ := get_ex (l := q) (k := i1) (by rw [← hn5.out]; exact hlt1)
                  obtain ⟨ga5, hga5, hrd⟩ := har.out (by rw [← hn5.out]; omega)
                  subst hga5
                  replace hrd := hide hrd
                  have hcA := hrd.out i1 ra hra1.out
                  have hI1 : Hid (I64 ra) := hide (hokq.out ra (List.mem_of_getElem? hra1.out))
                  obtain ⟨Y, hY, hwY, hYs, hz⟩ := boxes1 V2 #[.int .i64 1, .int .i64 ra, .int .u64 0] 42
                  have hbY : Below V1.heap.size V1 Y := hb2.trans (hwY.mono hV2s)
                  have hYs' := hbY.size
                  have hY1 : Hid (∀ w', Below Y.heap.size Y w' → Below V1.heap.size V1 w') := hide (fun w' h => hbY.trans (h.mono hYs'))
                  have z0 : ∀ w', Below Y.heap.size Y w' → w'.cell? ⟨V2.heap.size, 0, none⟩ = some (.int .i64 1) := hz 0 _ rfl
                  have z1 : ∀ w', Below Y.heap.size Y w' → w'.cell? ⟨V2.heap.size, 1, none⟩ = some (.int .i64 ra) := hz 1 _ rfl
                  have z2 : ∀ w', Below Y.heap.size Y w' → w'.cell? ⟨V2.heap.size, 2, none⟩ = some (.int .u64 0) := hz 2 _ rfl
                  have y0 : ∀ w', Below Y.heap.size Y w' → w'.cell? ⟨V.heap.size, 0, none⟩ = some (.string f.name) := fun w' h => uc0 w' (hY1.out w' h)
                  have y1 : ∀ w', Below Y.heap.size Y w' → w'.cell? ⟨V.heap.size, 1, none⟩ = some (.slice A1 np k1) := fun w' h => uc1 w' (hY1.out w' h)
                  have y2 : ∀ w', Below Y.heap.size Y w' → w'.cell? ⟨V.heap.size, 2, none⟩ = some (.int .i64 f.ret) := fun w' h => uc2 w' (hY1.out w' h)
                  have y3 : ∀ w', Below Y.heap.size Y w' → w'.cell? ⟨V.heap.size, 3, none⟩ = some (.slice A2 N k2) := fun w' h => uc3 w' (hY1.out w' h)
                  obtain ⟨b7, j7, blk7, x7, hb7, hj7, ho7, hr7⟩ := alR_mem (f := f) (a := ra) (by rw [← hqf.out]; exact List.mem_of_getElem? hra1.out)
                  have hno : Hid (∀ (k : Nat) rb, q[k]? = some rb → i1 ≠ k → ∀ t u, askS f.params.length f.blocks ⟨1, ra, 0⟩ t ⟨1, rb, 0⟩ u = 0) := hide (fun k rb hk hne t u => by
                    obtain ⟨b8, j8, blk8, x8, hb8, hj8, ho8, hr8⟩ := alR_mem (f := f) (a := rb) (by rw [← hqf.out]; exact List.mem_of_getElem? hk)
                    have hne2 := nodup_get hnd.out hra1.out hk hne
                    rw [← hr7, ← hr8]
                    refine kin_two hfr.out hb7 hj7 ho7 hb8 hj8 ho8 (fun e => hne2 ?_) t u
                    obtain ⟨e1, e2⟩ := e
                    subst e1 e2
                    rw [hb7] at hb8
                    cases hb8
                    rw [hj7] at hj8
                    cases hj8
                    rw [← hr7, ← hr8])
                  have hnp2 : Hid (∀ p : Nat, p < np → escS f.blocks ra = false → ∀ t u, askS f.params.length f.blocks ⟨1, (p : Int), 0⟩ t ⟨1, ra, 0⟩ u = 0) := hide (fun p hp he t u => by
                    rw [← hr7] at he ⊢
                    exact kin_param hfr.out hb7 hj7 ho7 (by omega) (by have := hnpe.out; omega) he t u)
                  have hselfY := Below.refl Y.heap.size Y
                  replace hb7 := hide hb7
                  replace hj7 := hide hj7
                  replace ho7 := hide ho7
                  replace hr7 := hide hr7
                  replace hwY := hide hwY
                  replace hYs := hide hYs
                  replace hY := hide hY
                  have cAY : Hid (∀ (p q : Opd) (t u : Int), I64 p.kind ∧ I64 p.num → I64 q.kind ∧ I64 q.num → askS f.params.length f.blocks p t q u = 0 → ∀ w', Below Y.heap.size Y w' → Calls Try.prog 11 #[f.v (.slice A1 np k1) (.slice A2 N k2), .agg #[.int .i64 p.kind, .int .i64 p.num, .int .u64 p.bits], .int .i64 t, .agg #[.int .i64 q.kind, .int .i64 q.num, .int .u64 q.bits], .int .i64 u] w' (RetV (.int .i64 0) w')) := hide (fun p q t u hp hq hz w' h => cA1.out p q t u 0 hp hq hz w' (hY1.out w' h))
                  obtain ⟨es, hes⟩ : ∃ es, Hid (es = escS f.blocks ra) := ⟨_, hide rfl⟩
                  have cEY : Hid (∀ w', Below Y.heap.size Y w' → Calls Try.prog 12 #[f.v (.slice A1 np k1) (.slice A2 N k2), .int .i64 ra] w' (RetB es w')) := hide (fun w' h => by
                    rw [hes.out]
                    exact cE1.out ra w' hI1.out (hY1.out w' h))
                  have hcY : ∀ w', Below Y.heap.size Y w' → w'.cell? ⟨ga5, i1, none⟩ = some (.int .i64 ra) := fun w' h => hcA w' (hY1.out w' h)
                  clear hz
                  go_upto_region 31 with (fail)
                  rw [hY.out]
                  clear hY uc0 uc1 uc2 uc3 hcA hb2
                  go_wp2
                  go_loopw [126] (fun s wr => ∃ j : Nat, s = .int .i64 j ∧ j ≤ n5 ∧ Below Y.heap.size Y wr) (fun s _ => n5 - (intOf s).toNat)
                  case atStart => exact ⟨0, rfl, Nat.zero_le _, hselfY⟩
                  case round =>
                    clear hselfY
                    rename World => V3
                    obtain ⟨j1, rfl, hj1, hb3⟩ := hrel
                    have hV3s := hb3.size
                    by_cases hlt2 : j1 < n5
                    · have hjj1 : (j1 : Int) < (n5 : Int) := by omega
                      obtain ⟨rb, hrb1⟩ := get_ex (l := q) (k := j1) (by rw [← hn5.out]; exact hlt2)
                      have hcB := hrd.out j1 rb hrb1.out
                      have hcB' : ∀ w', Below Y.heap.size Y w' → w'.cell? ⟨ga5, j1, none⟩ = some (.int .i64 rb) := fun w' h => hcB w' (hY1.out w' h)
                      have hI2 : Hid (I64 rb) := hide (hokq.out rb (List.mem_of_getElem? hrb1.out))
                      clear hcB
                      by_cases hne : i1 = j1
                      · subst hne
                        have hd : ((i1 : Int) != (i1 : Int)) = false := by simp
                        go_wp2
                        go_roundw
                        case rel => exact ⟨i1 + 1, by go_num, hlt2, hb3⟩
                        case measure => simp [intOf]; omega
                      · have hd : ((i1 : Int) != (j1 : Int)) = true := by rw [bne_iff_ne]; omega
                        have cQ := hide (cAY.out ⟨1, ra, 0⟩ ⟨1, rb, 0⟩ 8 64 ⟨o64.out, hI1.out⟩ ⟨o64.out, hI2.out⟩ (hno.out j1 rb hrb1.out hne _ _))
                        replace hne := hide hne
                        go_wp2_with (fail)
                        refine (cQ.out _ hb3).mono ?_
                        rintro e X8 ⟨rfl, hb8x⟩
                        have hw8 := hb3.trans (hb8x.mono hb3.size)
                        clear hb8x
                        go_wp2
                        go_roundw
                        case rel => exact ⟨j1 + 1, by go_num, hlt2, hw8⟩
                        case measure => simp [intOf]; omega
                    · obtain rfl : n5 = j1 := by omega
                      go_wp2
                      go_loopw [146] (fun s wr => ∃ p : Nat, s = .int .i64 p ∧ p ≤ np ∧ Below Y.heap.size Y wr) (fun s _ => np - (intOf s).toNat)
                      case atStart => exact ⟨0, rfl, Nat.zero_le _, hb3⟩
                      case round =>
                        clear hb3 hV3s
                        rename World => V4
                        obtain ⟨p1, rfl, hp1, hb4⟩ := hrel
                        have hV4s := hb4.size
                        by_cases hlt3 : p1 < np
                        · have hpp1 : (p1 : Int) < (np : Int) := by omega
                          have hP64 : Hid (I64 (p1 : Int)) := hide (i64_mk (by omega) (by omega))
                          obtain ⟨t1, ht1⟩ := get_ex (l := f.params) (k := p1) (by rw [← hnpe.out]; exact hlt3)
                          obtain ⟨b9, o9, hA9, he9⟩ := gp.out (by rw [← hnpe.out]; omega)
                          subst hA9
                          obtain ⟨c9, hc9, hr9⟩ := he9 p1 t1 ht1.out
                          have hc9 := hc9.1
                          cases hc9
                          have hr9' : ∀ w', Below Y.heap.size Y w' → w'.cell? ⟨b9, o9 + p1, none⟩ = some (.int .i64 t1) := fun w' h => hr9 w' (hVw.out w' (hY1.out w' h))
                          clear he9 hr9
                          by_cases h65 : t1 = 65
                          · have d65 : (t1 == 65) = true := by rw [h65]; rfl
                            replace h65 := hide h65
                            cases es with
                            | true =>
                              go_wp2_with (fail)
                              refine (cEY.out _ hb4).mono ?_
                              rintro e X7 ⟨rfl, hb7x⟩
                              have hw7 := hb4.trans (hb7x.mono hb4.size)
                              clear hb7x
                              go_wp2
                              go_roundw
                              case rel => exact ⟨p1 + 1, by go_num, hlt3, hw7⟩
                              case measure => simp [intOf]; omega
                            | false =>
                              have cQ := hide (cAY.out ⟨1, (p1 : Int), 0⟩ ⟨1, ra, 0⟩ 64 8 ⟨o64.out, hP64.out⟩ ⟨o64.out, hI1.out⟩ (hnp2.out p1 hlt3 hes.out.symm _ _))
                              go_wp2_with (fail)
                              refine (cEY.out _ hb4).mono ?_
                              rintro e X7 ⟨rfl, hb7x⟩
                              have hw7 := hb4.trans (hb7x.mono hb4.size)
                              clear hb7x
                              go_wp2_with (fail)
                              refine (cQ.out _ hw7).mono ?_
                              rintro e X8 ⟨rfl, hb8x⟩
                              have hw8 := hw7.trans (hb8x.mono hw7.size)
                              clear hb8x
                              go_wp2
                              go_roundw
                              case rel => exact ⟨p1 + 1, by go_num, hlt3, hw8⟩
                              case measure => simp [intOf]; omega
                          · have d65 : (t1 == 65) = false := by rw [beq_eq_false_iff_ne]; exact h65
                            replace h65 := hide h65
                            go_wp2
                            go_roundw
                            case rel => exact ⟨p1 + 1, by go_num, hlt3, hb4⟩
                            case measure => simp [intOf]; omega
                        · obtain rfl : np = p1 := by omega
                          have hfx := hide (hY1.out _ hb4)
                          go_wp2
                          go_roundw
                          case rel => exact ⟨i1 + 1, by go_num, hlt1, hfx.out⟩
                          case measure => simp [intOf]; omega
                · obtain rfl : n5 = i1 := by omega
                  have hfx := hide (hVW.out _ hb2)
                  go_wp2
                  go_roundw
                  case rel => exact ⟨i + 1, by go_num, hlt, hfx.out⟩
                  case measure => simp [intOf]; omega
      · obtain rfl : i = v3 := by omega
        have hfin := hide (hwX.out _ hbel)
        go_wp2
        go_ret
        exact ⟨rfl, hfin.out⟩
end Go.Proofs.Ytamjcafjdioidaa
