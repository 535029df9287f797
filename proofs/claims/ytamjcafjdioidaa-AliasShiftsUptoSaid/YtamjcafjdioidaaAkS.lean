/- The law AliasShifts, walked. No condition but sizes. -/
import Derived.Test.YtamjcafjdioidaaAkC
import Derived.Test.YtamjcafjdioidaaAkD
namespace Go.Proofs.Ytamjcafjdioidaa
open Go.RowKit
set_option linter.unusedSimpArgs false
set_option linter.unusedVariables false

set_option maxRecDepth 100000 in
set_option maxHeartbeats 6400000 in
theorem law_alias_shifts (m : Mod) (p q : Opd) (t u z : Int) (hp : I64 p.kind ∧ I64 p.num) (hq : I64 q.kind ∧ I64 q.num) (m1 m2 m3 : Value) (w : World) (ha : RMod.rep w w.heap.size [m1, m2, m3] m) (hsz : ∀ f, f ∈ m.funcs → funSz f ≤ 1900000) :
    Calls Try.prog 4 #[m.v m1 m2 m3, .agg #[.int .i64 p.kind, .int .i64 p.num, .int .u64 p.bits], .agg #[.int .i64 q.kind, .int .i64 q.num, .int .u64 q.bits], .int .i64 t, .int .i64 u, .int .u64 z] w (RetB true w) := by
  obtain ⟨M1, v1, j1, M2, v2, j2, M3, v3, j3, hmf⟩ := mod_forms ha
  obtain ⟨e1, e2, e3⟩ := hmf
  subst e1 e2 e3
  obtain ⟨A5, k5, hM3, hl5, gf⟩ := funs_at (mod_open (RMod.later ha (Below.refl _ _) (Nat.le_refl _))).2.2
  have hv3 : v3 = m.funcs.length := by cases hM3; rfl
  have hM3' : M3 = A5 ∧ j3 = k5 := by cases hM3; exact ⟨rfl, rfl⟩
  obtain ⟨e1, e2⟩ := hM3'
  subst e1 e2
  clear hM3
  rw [← hv3] at hl5 gf
  replace gf := hide gf
  replace hv3 := hide hv3
  obtain ⟨W, hW, hwW, hWs, hx, hxp, hxq⟩ := boxes3 w #[.slice M1 v1 j1, .slice M2 v2 j2, .slice M3 v3 j3] #[.int .i64 p.kind, .int .i64 p.num, .int .u64 p.bits] #[.int .i64 q.kind, .int .i64 q.num, .int .u64 q.bits] 26 42 42
  have p0 : ∀ w', Below W.heap.size W w' → w'.cell? ⟨w.heap.size, 0, none⟩ = some (.slice M1 v1 j1) := hx 0 _ rfl
  have p1 : ∀ w', Below W.heap.size W w' → w'.cell? ⟨w.heap.size, 1, none⟩ = some (.slice M2 v2 j2) := hx 1 _ rfl
  have p2 : ∀ w', Below W.heap.size W w' → w'.cell? ⟨w.heap.size, 2, none⟩ = some (.slice M3 v3 j3) := hx 2 _ rfl
  have bp0 : ∀ w', Below W.heap.size W w' → w'.cell? ⟨w.heap.size + 1, 0, none⟩ = some (.int .i64 p.kind) := hxp 0 _ rfl
  have bp1 : ∀ w', Below W.heap.size W w' → w'.cell? ⟨w.heap.size + 1, 1, none⟩ = some (.int .i64 p.num) := hxp 1 _ rfl
  have bp2 : ∀ w', Below W.heap.size W w' → w'.cell? ⟨w.heap.size + 1, 2, none⟩ = some (.int .u64 p.bits) := hxp 2 _ rfl
  have bq0 : ∀ w', Below W.heap.size W w' → w'.cell? ⟨w.heap.size + 1 + 1, 0, none⟩ = some (.int .i64 q.kind) := hxq 0 _ rfl
  have bq1 : ∀ w', Below W.heap.size W w' → w'.cell? ⟨w.heap.size + 1 + 1, 1, none⟩ = some (.int .i64 q.num) := hxq 1 _ rfl
  have bq2 : ∀ w', Below W.heap.size W w' → w'.cell? ⟨w.heap.size + 1 + 1, 2, none⟩ = some (.int .u64 q.bits) := hxq 2 _ rfl
  clear hx hxp hxq
  have hws : w.heap.size ≤ W.heap.size := by omega
  replace hsz := hide hsz
  have hself := Below.refl W.heap.size W
  have hwX : Hid (∀ w', Below W.heap.size W w' → Below w.heap.size w w') := hide (fun w' h => hwW.trans (h.mono hws))
  obtain ⟨rb, hrb⟩ : ∃ rb, Hid (rb = rightB m) := ⟨_, hide rfl⟩
  have cR : Hid (∀ w', Below W.heap.size W w' → Calls Try.prog 8 #[m.v (.slice M1 v1 j1) (.slice M2 v2 j2) (.slice M3 v3 j3)] w' (RetB rb w')) := hide (fun w' h => by
    rw [hrb.out]
    exact right_any m _ _ _ w' w'.heap.size (Nat.le_refl _) (RMod.later ha (hwX.out w' h) (hwX.out w' h).size) (fun f hf => by have := hsz.out f hf; omega))
  replace ha := hide ha
  replace hWs := hide hWs
  replace hW := hide hW
  replace hwW := hide hwW
  have o64 : Hid (I64 1) := hide (i64_mk (by omega) (by omega))
  obtain ⟨i0, hi0, hz0, hz1, hz2⟩ := cinfo_parts cinfo_Instr
  replace hi0 := hide hi0
  replace hz0 := hide hz0
  replace hz1 := hide hz1
  replace hz2 := hide hz2
  replace hp := hide hp
  replace hq := hide hq
  go_enter Try.func4, Try.ntmps4
  go_upto_region 1 with (fail)
  rw [hW.out]
  clear hW
  go_wp2_with (fail)
  refine (lives18_any _).mono ?_
  rintro e w1 ⟨rfl, hb1⟩
  have hk1 := hself.trans (hb1.mono hself.size)
  clear hb1 hself
  go_wp2_with (fail)
  refine (cR.out _ hk1).mono ?_
  rintro e w2 ⟨rfl, hb2⟩
  have hk2 := hk1.trans (hb2.mono hk1.size)
  clear hb2 cR hk1
  cases rb with
  | false =>
    have hfin := hide (hwX.out _ hk2)
    go_wp2
    go_ret
    exact ⟨rfl, hfin.out⟩
  | true =>
    have hright : Hid (∀ f, f ∈ m.funcs → FunRight m f) := hide (fun f hf => right_fun hrb.out.symm hf)
    go_wp2
    go_loopw [34] (fun s wr => ∃ i : Nat, s = .int .i64 i ∧ i ≤ v3 ∧ Below W.heap.size W wr) (fun s _ => v3 - (intOf s).toNat)
    case atStart => exact ⟨0, rfl, Nat.zero_le _, hk2⟩
    case round =>
      clear hk2
      rename World => V
      obtain ⟨i, rfl, hi, hbel⟩ := hrel
      have hVs := hbel.size
      by_cases hlt : i < v3
      · have hii : (i : Int) < (v3 : Int) := by omega
        obtain ⟨f, hf⟩ := get_ex (l := m.funcs) (k := i) (by rw [← hv3.out]; exact hlt)
        obtain ⟨b1, o1, hA1, he⟩ := gf.out (by omega)
        subst hA1
        obtain ⟨cp, ep, hra, hc⟩ := he i f hf.out
        obtain ⟨hrp, hrb'⟩ := fun_open hra
        obtain ⟨A1, k1, h1, hnp, gp⟩ := Rp.slice1_open hrp
        obtain ⟨A2, k2, h2, hmb, gb⟩ := Rp.slice1_open hrb'
        cases h1; cases h2
        have hfz := hide (hsz.out f (List.mem_of_getElem? hf.out))
        have hfr := hide (hright.out f (List.mem_of_getElem? hf.out))
        have hzb : Hid (∀ x, x ∈ f.blocks → x.length ≤ 2000000) := hide (fun x hx => ((small_of (by have := hfz.out; omega)).code x hx).1)
        obtain ⟨np, hnpe⟩ : ∃ np, Hid (np = f.params.length) := ⟨_, hide rfl⟩
        obtain ⟨N, hN⟩ : ∃ N, Hid (N = f.blocks.length) := ⟨_, hide rfl⟩
        rw [← hnpe.out, ← hN.out] at hra hc
        rw [← hnpe.out] at hnp
        rw [← hN.out] at hmb
        replace gp := hide gp
        replace gb := hide gb
        obtain ⟨s0, s1, s2, s3⟩ := hc.four
        have s0 := s0 V (hwX.out V hbel)
        have s1 := s1 V (hwX.out V hbel)
        have s2 := s2 V (hwX.out V hbel)
        have s3 := s3 V (hwX.out V hbel)
        obtain ⟨Z, hZ, hwZ, hZs, hzc⟩ := boxes1 V #[.string f.name, .slice A1 np k1, .int .i64 f.ret, .slice A2 N k2] 32
        have t0 : ∀ w', Below Z.heap.size Z w' → w'.cell? ⟨V.heap.size, 0, none⟩ = some (.string f.name) := hzc 0 _ rfl
        have t1 : ∀ w', Below Z.heap.size Z w' → w'.cell? ⟨V.heap.size, 1, none⟩ = some (.slice A1 np k1) := hzc 1 _ rfl
        have t2 : ∀ w', Below Z.heap.size Z w' → w'.cell? ⟨V.heap.size, 2, none⟩ = some (.int .i64 f.ret) := hzc 2 _ rfl
        have t3 : ∀ w', Below Z.heap.size Z w' → w'.cell? ⟨V.heap.size, 3, none⟩ = some (.slice A2 N k2) := hzc 3 _ rfl
        have hbZ : Below W.heap.size W Z := hbel.trans (hwZ.mono hVs)
        have hZW : Hid (∀ w', Below Z.heap.size Z w' → Below W.heap.size W w') := hide (fun w' h => hbZ.trans (h.mono hbZ.size))
        have hZw : Hid (∀ w', Below Z.heap.size Z w' → Below w.heap.size w w') := hide (fun w' h => hwX.out w' (hZW.out w' h))
        have hF : Hid (∀ w', Below Z.heap.size Z w' → RFun.rep w' w'.heap.size [.string f.name, .slice A1 np k1, .int .i64 f.ret, .slice A2 N k2] f) := hide (fun w' h => RFun.later hra (hZw.out w' h) (hZw.out w' h).size)
        obtain ⟨lb, hlb⟩ : ∃ lb, Hid (lb = long18F f) := ⟨_, hide rfl⟩
        have cL : Hid (∀ w', Below Z.heap.size Z w' → Calls Try.prog 9 #[f.v (.slice A1 np k1) (.slice A2 N k2)] w' (RetB lb w')) := hide (fun w' h => by
          have := long18_any f (.slice A1 np k1) (.slice A2 N k2) w' w'.heap.size (Nat.le_refl _) (hF.out w' h) (by have := hfz.out; omega)
          rwa [← hlb.out] at this)
        have cA : Hid (∀ (p q : Opd) (t u z : Int), I64 p.kind ∧ I64 p.num → I64 q.kind ∧ I64 q.num → askS f.params.length f.blocks p t q u = z → ∀ w', Below Z.heap.size Z w' → Calls Try.prog 11 #[f.v (.slice A1 np k1) (.slice A2 N k2), .agg #[.int .i64 p.kind, .int .i64 p.num, .int .u64 p.bits], .int .i64 t, .agg #[.int .i64 q.kind, .int .i64 q.num, .int .u64 q.bits], .int .i64 u] w' (RetV (.int .i64 z) w')) := hide (fun p q t u z hp hq hz w' h => by
          have := asked_any f p q t u hp hq (.slice A1 np k1) (.slice A2 N k2) w' w'.heap.size (Nat.le_refl _) (hF.out w' h) (by have := hfz.out; omega)
          rwa [hz] at this)
        have cRt : Hid (∀ (v : Opd) w', I64 v.kind ∧ I64 v.num → Below Z.heap.size Z w' → Calls Try.prog 10 #[f.v (.slice A1 np k1) (.slice A2 N k2), .agg #[.int .i64 v.kind, .int .i64 v.num, .int .u64 v.bits]] w' (RootPost f.blocks v w')) := hide (fun v w' h h' => root_any f v h (.slice A1 np k1) (.slice A2 N k2) w' w'.heap.size (Nat.le_refl _) (hF.out w' h') (by have := hfz.out; omega))
        have hselfZ := Below.refl Z.heap.size Z
        replace hra := hide hra
        replace hrp := hide hrp
        replace hrb' := hide hrb'
        replace hwZ := hide hwZ
        replace hZs := hide hZs
        replace hZ := hide hZ
        clear he hc hzc hF
        go_upto_region 8 with (fail)
        rw [hZ.out]
        clear hZ s0 s1 s2 s3
        go_wp2_with (fail)
        refine (cL.out _ hselfZ).mono ?_
        rintro e U ⟨rfl, hbU⟩
        have hkU := hselfZ.trans (hbU.mono hselfZ.size)
        clear hbU cL hselfZ
        cases lb with
        | true =>
          have hfx := hZW.out _ hkU
          go_wp2
          go_roundw
          case rel => exact ⟨i + 1, by go_num, hlt, hfx⟩
          case measure => simp [intOf]; omega
        | false =>
          by_cases hN0 : N = 0
          · have d0 : ((N : Int) == 0) = true := by rw [hN0]; rfl
            have hfx := hZW.out _ hkU
            replace hN0 := hide hN0
            go_wp2
            go_roundw
            case rel => exact ⟨i + 1, by go_num, hlt, hfx⟩
            case measure => simp [intOf]; omega
          have d0 : ((N : Int) == 0) = false := by rw [beq_eq_false_iff_ne]; omega
          have hN1 : (0 : Int) < (N : Int) := by omega
          have hN1' : 0 < N := by omega
          replace hN0 := hide hN0
          have hUs := hkU.size
          have hUZ : Hid (∀ w', Below U.heap.size U w' → Below Z.heap.size Z w') := hide (fun w' h => hkU.trans (h.mono hUs))
          have hUW : Hid (∀ w', Below U.heap.size U w' → Below W.heap.size W w') := hide (fun w' h => hZW.out w' (hUZ.out w' h))
          have r0 : ∀ w', Below U.heap.size U w' → w'.cell? ⟨V.heap.size, 0, none⟩ = some (.string f.name) := fun w' h => t0 w' (hUZ.out w' h)
          have r1 : ∀ w', Below U.heap.size U w' → w'.cell? ⟨V.heap.size, 1, none⟩ = some (.slice A1 np k1) := fun w' h => t1 w' (hUZ.out w' h)
          have r2 : ∀ w', Below U.heap.size U w' → w'.cell? ⟨V.heap.size, 2, none⟩ = some (.int .i64 f.ret) := fun w' h => t2 w' (hUZ.out w' h)
          have r3 : ∀ w', Below U.heap.size U w' → w'.cell? ⟨V.heap.size, 3, none⟩ = some (.slice A2 N k2) := fun w' h => t3 w' (hUZ.out w' h)
          have s0 : ∀ w', Below U.heap.size U w' → w'.cell? ⟨w.heap.size + 1, 0, none⟩ = some (.int .i64 p.kind) := fun w' h => bp0 w' (hUW.out w' h)
          have s1 : ∀ w', Below U.heap.size U w' → w'.cell? ⟨w.heap.size + 1, 1, none⟩ = some (.int .i64 p.num) := fun w' h => bp1 w' (hUW.out w' h)
          have s2 : ∀ w', Below U.heap.size U w' → w'.cell? ⟨w.heap.size + 1, 2, none⟩ = some (.int .u64 p.bits) := fun w' h => bp2 w' (hUW.out w' h)
          have s3 : ∀ w', Below U.heap.size U w' → w'.cell? ⟨w.heap.size + 1 + 1, 0, none⟩ = some (.int .i64 q.kind) := fun w' h => bq0 w' (hUW.out w' h)
          have s4 : ∀ w', Below U.heap.size U w' → w'.cell? ⟨w.heap.size + 1 + 1, 1, none⟩ = some (.int .i64 q.num) := fun w' h => bq1 w' (hUW.out w' h)
          have s5 : ∀ w', Below U.heap.size U w' → w'.cell? ⟨w.heap.size + 1 + 1, 2, none⟩ = some (.int .u64 q.bits) := fun w' h => bq2 w' (hUW.out w' h)
          obtain ⟨rv, ro, rk, hR⟩ : ∃ (rv : Opd) (ro : Int) (rk : Bool), Hid (rootS f.blocks p = (rv, ro, rk)) := ⟨_, _, _, hide rfl⟩
          obtain ⟨gv, gof, gk, hG⟩ : ∃ (gv : Opd) (gof : Int) (gk : Bool), Hid (rootS f.blocks q = (gv, gof, gk)) := ⟨_, _, _, hide rfl⟩
          have cM : Hid (∀ w', Below U.heap.size U w' → Calls Try.prog 10 #[f.v (.slice A1 np k1) (.slice A2 N k2), .agg #[.int .i64 p.kind, .int .i64 p.num, .int .u64 p.bits]] w' fun e w'' => e = .returned (.tuple #[.agg #[.int .i64 rv.kind, .int .i64 rv.num, .int .u64 rv.bits], .int .i64 ro, .bool rk]) ∧ Below w'.heap.size w' w'') := hide (fun w' h => by
            refine (cRt.out p w' hp.out (hUZ.out w' h)).mono ?_
            rintro e w9 ⟨rfl, -, h9⟩
            rw [hR.out]
            exact ⟨rfl, h9⟩)
          have cG : Hid (∀ w', Below U.heap.size U w' → Calls Try.prog 10 #[f.v (.slice A1 np k1) (.slice A2 N k2), .agg #[.int .i64 q.kind, .int .i64 q.num, .int .u64 q.bits]] w' fun e w'' => e = .returned (.tuple #[.agg #[.int .i64 gv.kind, .int .i64 gv.num, .int .u64 gv.bits], .int .i64 gof, .bool gk]) ∧ Below w'.heap.size w' w'') := hide (fun w' h => by
            refine (cRt.out q w' hq.out (hUZ.out w' h)).mono ?_
            rintro e w9 ⟨rfl, -, h9⟩
            rw [hG.out]
            exact ⟨rfl, h9⟩)
          have hselfU := Below.refl U.heap.size U
          clear t0 t1 t2 t3 hkU
          go_wp2_with (fail)
          refine (cM.out _ hselfU).mono ?_
          rintro e X1 ⟨rfl, hb1⟩
          obtain ⟨X2, hX2, hwX2, hX2s, hxc⟩ := boxes1 X1 #[.int .i64 rv.kind, .int .i64 rv.num, .int .u64 rv.bits] 42
          have x0 := hxc 0 _ rfl
          have x1 := hxc 1 _ rfl
          have x2 := hxc 2 _ rfl
          have hUX : Below U.heap.size U X2 := hb1.trans (hwX2.mono hb1.size)
          have hX2u := hUX.size
          replace hwX2 := hide hwX2
          replace hX2s := hide hX2s
          replace hX2 := hide hX2
          clear hxc hb1
          go_upto_region 10 with (fail)
          rw [hX2.out]
          clear hX2
          go_wp2_with (fail)
          refine (cG.out _ hUX).mono ?_
          rintro e X3 ⟨rfl, hb3⟩
          obtain ⟨X4, hX4, hwX4, hX4s, hxc⟩ := boxes1 X3 #[.int .i64 gv.kind, .int .i64 gv.num, .int .u64 gv.bits] 42
          have y0 := hxc 0 _ rfl
          have y1 := hxc 1 _ rfl
          have y2 := hxc 2 _ rfl
          have h24 : Below X2.heap.size X2 X4 := hb3.trans (hwX4.mono hb3.size)
          have hUX4 : Below U.heap.size U X4 := hUX.trans (h24.mono hX2u)
          have hX4u := hUX4.size
          replace hwX4 := hide hwX4
          replace hX4s := hide hX4s
          replace hX4 := hide hX4
          clear hxc hb3 hUX
          have hfx4 := hide (hUW.out _ hUX4)
          have hself4 := Below.refl X4.heap.size X4
          go_upto_region 11 with (fail)
          rw [hX4.out]
          clear hX4
          by_cases hrk : rk = true
          case neg =>
            obtain rfl : rk = false := by simpa using hrk
            clear hrk
            go_wp2
            go_roundw
            case rel => exact ⟨i + 1, by go_num, hlt, hfx4.out⟩
            case measure => simp [intOf]; omega
          subst hrk
          by_cases hgk : gk = true
          case neg =>
            obtain rfl : gk = false := by simpa using hgk
            clear hgk
            go_wp2
            go_roundw
            case rel => exact ⟨i + 1, by go_num, hlt, hfx4.out⟩
            case measure => simp [intOf]; omega
          subst hgk
          by_cases hv : rv = gv
          case neg =>
            go_cut [70] (fun s wx => s = .bool true ∧ wx = X4)
            case first =>
              go_wp2
              all_goals go_meet
              all_goals first
                | exact ⟨rfl, rfl⟩
                | exact absurd (opd_same (by assumption) (by assumption) (by assumption)) hv
            case rest =>
              obtain ⟨rfl, hw9⟩ := hcut
              subst hw9
              go_wp2
              go_roundw
              case rel => exact ⟨i + 1, by go_num, hlt, hfx4.out⟩
              case measure => simp [intOf]; omega
          subst hv
          go_cut [70] (fun s wx => s = .bool false ∧ wx = X4)
          case first =>
            go_wp2
            go_meet
            exact ⟨by simp, rfl⟩
          case rest =>
            obtain ⟨rfl, hw9⟩ := hcut
            subst hw9
            rename World => X4
            obtain ⟨l0, e0, rest, hfb0, hen⟩ := right_front hfr.out
            have hfb := hide hfb0
            clear hfb0
            obtain ⟨n0, hn0⟩ : ∃ n0, Hid (n0 = l0.length) := ⟨_, hide rfl⟩
            have hNr : Hid (N = rest.length + 1) := hide (by rw [hN.out, hfb.out, List.length_cons])
            have hn0b : n0 + 1 ≤ 2000000 := by
              have := hzb.out (l0 ++ [e0]) (by rw [hfb.out]; exact List.mem_cons_self ..)
              rw [hn0.out]
              simpa using this
            obtain ⟨r, hrle, hrf⟩ := fresh_exists f.blocks.flatten f.params.length
            have hparts : Hid (partsL f.blocks.flatten ≤ 2000000 ∧ f.params.length ≤ 2000000) := hide (by
              have h1 := parts_flat f
              have h2 := hfz.out
              have h3 := (small_of (f := f) (by have := hfz.out; omega)).params
              omega)
            have hrI : Hid (I64 (r : Int)) := hide (by have := hparts.out; exact i64_mk (by omega) (by omega))
            replace hrf := hide hrf
            replace hrle := hide hrle
            have cC : Hid (Calls Try.prog 13 #[f.v (.slice A1 np k1) (.slice A2 N k2)] X4 (CopyTree f X4)) := hide (by
              have h9 := hUZ.out X4 hUX4
              exact rcopytree_any f (.slice A1 np k1) (.slice A2 N k2) X4 X4.heap.size (Nat.le_refl _) (RFun.later hra.out (hZw.out _ h9) (hZw.out _ h9).size) (small_of (by have := hfz.out; omega)))
            go_wp2_with (fail)
            refine cC.out.mono ?_
            rintro e X5 ⟨c, d, L, rfl, hOc, hcL, hOd, hLs, hb5⟩
            clear cC
            obtain ⟨Ac, Cc0, hc0⟩ := row_form hOc.row
            subst hc0
            rw [← hnpe.out] at hOc hcL
            have hOK := hide hOd.toK
            rw [hfb.out] at hOd
            obtain ⟨gB, C, kc, Cc, ce, te, rfl, hcell, hfrz, hcells, hva, hvt, hvi, hcap, hcapm, hkL, hkw, hkg, -, hSp⟩ := Spl.opened hOd
            rw [← hn0.out] at hcell hcap hcells hSp
            rw [← hNr.out] at hOK hSp
            rw [← hnpe.out, ← hNr.out]
            obtain ⟨Ae, Ce, hce⟩ := row_form hva.row
            obtain ⟨At, Ct, hte⟩ := row_form hvt.row
            subst hce hte
            obtain ⟨ne, hne⟩ : ∃ ne, Hid (ne = e0.args.length) := ⟨_, hide rfl⟩
            obtain ⟨nt, hnt⟩ : ∃ nt, Hid (nt = e0.to.length) := ⟨_, hide rfl⟩
            rw [← hne.out, ← hnt.out] at hcells
            rw [← hne.out] at hva
            rw [← hnt.out] at hvt
            obtain ⟨nn, hnn⟩ : ∃ nn, Hid (nn = n0 + 1) := ⟨_, hide rfl⟩
            rw [← hnn.out] at hcell
            have c9 : (nn : Int) - 1 = (n0 : Int) := by have := hnn.out; omega
            have c9n : n0 < nn := by have := hnn.out; omega
            have c9i : (n0 : Int) < (nn : Int) := by omega
            have c9c : nn ≤ Cc := by have := hnn.out; omega
            have c9d : n0 ≤ Cc := by omega
            have c9e : (n0 : Int) ≤ (Cc : Int) := by omega
            have c9f : (0 : Int) ≤ (n0 : Int) := by omega
            have c9w : IntKind.i64.wrap (n0 : Int) = (n0 : Int) := by rw [IntKind.wrap_i64]; omega
            obtain ⟨Y5, hY5, hwY5, hY5s, hxc⟩ := boxes1 X5 #[.string f.name, .slice Ac np Cc0, .int .i64 f.ret, .slice (some ⟨gB, 0, none⟩) N C] 32
            have g0 := hxc 0 _ rfl
            have g1c := hxc 1 _ rfl
            have g2c := hxc 2 _ rfl
            have g3c := hxc 3 _ rfl
            clear hxc
            have hX5s := hb5.size
            have h4Y : Below X4.heap.size X4 Y5 := hb5.trans (hwY5.mono hX5s)
            have h5Y : Hid (∀ w', Below Y5.heap.size Y5 w' → Below X5.heap.size X5 w') := hide (fun w' h => hwY5.trans (h.mono (by omega)))
            have hY5n : X5.heap.size < Y5.heap.size := by omega
            have cF1 : Hid (∀ w', Below Y5.heap.size Y5 w' → Calls Try.prog 14 #[f.v (.slice Ac np Cc0) (.slice (some ⟨gB, 0, none⟩) N C)] w' fun e w'' => e = .returned (.int .i64 r) ∧ Below w'.heap.size w' w'') := hide (fun w' h => by
              have h9 := h5Y.out w' h
              have hi := hparts.out
              have hl := hrle.out
              have hi' := hOc.kept (w' := w') fun k _ hk => h9.block k hk
              have hk' := hOK.out.kept (w' := w') fun k _ hk => h9.block k hk
              exact rfresh_any f r _ _ w' w'.heap.size (Nat.le_refl _) hi'.rep hk'.rep (by omega) hrf.out (by omega))
            have hself5 := Below.refl Y5.heap.size Y5
            replace hY5 := hide hY5
            replace hwY5 := hide hwY5
            replace hY5s := hide hY5s
            go_upto_region 13 with (fail)
            rw [hY5.out]
            clear hY5
            go_wp2_with (fail)
            refine (cF1.out _ hself5).mono ?_
            rintro e Y6 ⟨rfl, hb6⟩
            have h56 := h5Y.out Y6 hb6
            have hb6s := hb6.size
            have hSp6 := hSp.below h56
            have q0 : ∀ w', Below Y6.heap.size Y6 w' → w'.cell? ⟨gB, 0, none⟩ = some (.slice (some ⟨kc, 0, none⟩) nn Cc) := fun w' h => ((h56.trans (h.mono h56.size)).cell (p := ⟨gB, 0, none⟩) (by have := (Spl.at_ hSp).2.1; exact this)).trans hcell
            have z9 : Hid (∀ (j : Nat) v, (insC e0 (.slice Ae ne Ce) (.slice At nt Ct))[j]? = some v → ∀ w', Below Y6.heap.size Y6 w' → w'.cell? ⟨kc, n0 * 7 + j, none⟩ = some v) := hide (fun j v hv w' h => ((h56.trans (h.mono h56.size)).cell (p := ⟨kc, n0 * 7 + j, none⟩) hkw).trans (hcells j v hv))
            have e0c : ∀ w', Below Y6.heap.size Y6 w' → w'.cell? ⟨kc, n0 * 7, none⟩ = some (.int .i64 e0.op) := z9.out 0 _ rfl
            have e1c : ∀ w', Below Y6.heap.size Y6 w' → w'.cell? ⟨kc, n0 * 7 + 1, none⟩ = some (.int .i64 e0.reg) := z9.out 1 _ rfl
            have e2c : ∀ w', Below Y6.heap.size Y6 w' → w'.cell? ⟨kc, n0 * 7 + 2, none⟩ = some (.int .i64 e0.ty) := z9.out 2 _ rfl
            have e3c : ∀ w', Below Y6.heap.size Y6 w' → w'.cell? ⟨kc, n0 * 7 + 3, none⟩ = some (.int .i64 e0.num) := z9.out 3 _ rfl
            have e4c : ∀ w', Below Y6.heap.size Y6 w' → w'.cell? ⟨kc, n0 * 7 + 4, none⟩ = some (.int .i64 e0.flags) := z9.out 4 _ rfl
            have e5c : ∀ w', Below Y6.heap.size Y6 w' → w'.cell? ⟨kc, n0 * 7 + 5, none⟩ = some (.slice Ae ne Ce) := z9.out 5 _ rfl
            have e6c : ∀ w', Below Y6.heap.size Y6 w' → w'.cell? ⟨kc, n0 * 7 + 6, none⟩ = some (.slice At nt Ct) := z9.out 6 _ rfl
            have b3c : ∀ w', Below Y6.heap.size Y6 w' → w'.cell? ⟨X5.heap.size, 3, none⟩ = some (.slice (some ⟨gB, 0, none⟩) N C) := fun w' h => g3c w' (hb6.trans (h.mono hb6s))
            obtain ⟨Y7, hY7, hwY7, hY7s, hxc⟩ := boxes1 Y6 #[.int .i64 e0.op, .int .i64 e0.reg, .int .i64 e0.ty, .int .i64 e0.num, .int .i64 e0.flags, .slice Ae ne Ce, .slice At nt Ct] 39
            have hself6 := Below.refl Y6.heap.size Y6
            have h67 : Below Y6.heap.size Y6 Y7 := hwY7
            have h57 : Below Y5.heap.size Y5 Y7 := hb6.trans (hwY7.mono hb6s)
            have hX57 := h5Y.out Y7 h57
            have hSp7 := hide (hSp.below hX57)
            have hY67 : Y6.heap.size < Y7.heap.size := by omega
            have hU7 : Hid (∀ w', Below Y7.heap.size Y7 w' → Below U.heap.size U w') := hide (fun w' h => hUX4.trans ((h4Y.trans ((h57.trans (h.mono h57.size)).mono h4Y.size)).mono hX4u))
            have hL7 : Hid (L ≤ Y7.heap.size) := hide (by have := hX57.size; omega)
            obtain ⟨hgL, hgw, -⟩ := Spl.at_ hSp
            have hgk : Hid (X4.heap.size ≤ kc ∧ X4.heap.size ≤ gB ∧ kc < X5.heap.size ∧ gB < X5.heap.size ∧ X5.heap.size < Y5.heap.size ∧ Y5.heap.size ≤ Y6.heap.size ∧ Y6.heap.size < Y7.heap.size) := hide (by omega)
            have k3c := g3c Y7 h57
            have k0c := g0 Y7 h57
            have k1c := g1c Y7 h57
            have k2c := g2c Y7 h57
            have w0c := hxc 0 _ rfl Y7 (Below.refl _ _)
            have w1c := hxc 1 _ rfl Y7 (Below.refl _ _)
            have w2c := hxc 2 _ rfl Y7 (Below.refl _ _)
            have w3c := hxc 3 _ rfl Y7 (Below.refl _ _)
            have w4c := hxc 4 _ rfl Y7 (Below.refl _ _)
            have w5c := hxc 5 _ rfl Y7 (Below.refl _ _)
            have w6c := hxc 6 _ rfl Y7 (Below.refl _ _)
            have hk7 : Hid (Y7.cell? ⟨X5.heap.size, 0, none⟩ = some (.string f.name) ∧ Y7.cell? ⟨X5.heap.size, 1, none⟩ = some (.slice Ac np Cc0) ∧ Y7.cell? ⟨X5.heap.size, 2, none⟩ = some (.int .i64 f.ret) ∧ Y7.cell? ⟨X5.heap.size, 3, none⟩ = some (.slice (some ⟨gB, 0, none⟩) N C)) := hide ⟨k0c, k1c, k2c, k3c⟩
            have hw7 : Hid (Y7.cell? ⟨Y6.heap.size, 0, none⟩ = some (.int .i64 e0.op) ∧ Y7.cell? ⟨Y6.heap.size, 1, none⟩ = some (.int .i64 e0.reg) ∧ Y7.cell? ⟨Y6.heap.size, 2, none⟩ = some (.int .i64 e0.ty) ∧ Y7.cell? ⟨Y6.heap.size, 3, none⟩ = some (.int .i64 e0.num) ∧ Y7.cell? ⟨Y6.heap.size, 4, none⟩ = some (.int .i64 e0.flags) ∧ Y7.cell? ⟨Y6.heap.size, 5, none⟩ = some (.slice Ae ne Ce) ∧ Y7.cell? ⟨Y6.heap.size, 6, none⟩ = some (.slice At nt Ct)) := hide ⟨w0c, w1c, w2c, w3c, w4c, w5c, w6c⟩
            have hva7 := hide (OwnV.kept hva fun k _ hk => hX57.block k hk)
            have hvt7 := hide (OwnI.kept hvt fun k _ hk => hX57.block k hk)
            have hc7 := hide (hOc.kept (w' := Y7) fun k _ hk => hX57.block k hk)
            have hcL' := hide hcL
            have hb7p0 : ∀ w', Below Y7.heap.size Y7 w' → w'.cell? ⟨w.heap.size + 1, 0, none⟩ = some (.int .i64 p.kind) := fun w' h => s0 w' (hU7.out w' h)
            have hb7p1 : ∀ w', Below Y7.heap.size Y7 w' → w'.cell? ⟨w.heap.size + 1, 1, none⟩ = some (.int .i64 p.num) := fun w' h => s1 w' (hU7.out w' h)
            have hb7p2 : ∀ w', Below Y7.heap.size Y7 w' → w'.cell? ⟨w.heap.size + 1, 2, none⟩ = some (.int .u64 p.bits) := fun w' h => s2 w' (hU7.out w' h)
            have hself7 := Below.refl Y7.heap.size Y7
            have hp7 : Hid (Y7.cell? ⟨w.heap.size + 1, 0, none⟩ = some (.int .i64 p.kind) ∧ Y7.cell? ⟨w.heap.size + 1, 1, none⟩ = some (.int .i64 p.num) ∧ Y7.cell? ⟨w.heap.size + 1, 2, none⟩ = some (.int .u64 p.bits)) := hide ⟨hb7p0 Y7 hself7, hb7p1 Y7 hself7, hb7p2 Y7 hself7⟩
            have hq7 : Hid (Y7.cell? ⟨w.heap.size + 1 + 1, 0, none⟩ = some (.int .i64 q.kind) ∧ Y7.cell? ⟨w.heap.size + 1 + 1, 1, none⟩ = some (.int .i64 q.num) ∧ Y7.cell? ⟨w.heap.size + 1 + 1, 2, none⟩ = some (.int .u64 q.bits)) := hide ⟨s3 Y7 (hU7.out _ hself7), s4 Y7 (hU7.out _ hself7), s5 Y7 (hU7.out _ hself7)⟩
            have hf7 : Hid (Y7.cell? ⟨V.heap.size, 0, none⟩ = some (.string f.name) ∧ Y7.cell? ⟨V.heap.size, 1, none⟩ = some (.slice A1 np k1) ∧ Y7.cell? ⟨V.heap.size, 2, none⟩ = some (.int .i64 f.ret) ∧ Y7.cell? ⟨V.heap.size, 3, none⟩ = some (.slice A2 N k2)) := hide ⟨r0 Y7 (hU7.out _ hself7), r1 Y7 (hU7.out _ hself7), r2 Y7 (hU7.out _ hself7), r3 Y7 (hU7.out _ hself7)⟩
            have hVU : Hid (V.heap.size < X4.heap.size ∧ w.heap.size + 2 < X4.heap.size ∧ Z.heap.size ≤ X4.heap.size ∧ W.heap.size ≤ X4.heap.size) := hide (by have := hZs.out; have := hWs.out; have := hbZ.size; omega)
            have hself7d := hself7.drew
            have hOK7 := hOK
            replace hwY7 := hide hwY7
            replace hY7s := hide hY7s
            replace hY7 := hide hY7
            replace hcell := hide hcell
            replace hcells := hide hcells
            replace hva := hide hva
            replace hvt := hide hvt
            replace hvi := hide hvi
            replace hSp := hide hSp
            replace hSp6 := hide hSp6
            replace hOc := hide hOc
            replace hOd := hide hOd
            replace hX57 := hide hX57
            replace h57 := hide h57
            replace h56 := hide h56
            replace h67 := hide h67
            replace h4Y := hide h4Y
            clear hxc k0c k1c k2c k3c w0c w1c w2c w3c w4c w5c w6c g0 g1c g2c g3c hcL hfrz
            go_upto_region 16 with (fail)
            rw [hY7.out]
            clear hY7 q0 e0c e1c e2c e3c e4c e5c e6c b3c s0 s1 s2 s3 s4 s5 r0 r1 r2 r3
            refine wp_region_U (S := fun u => Below Y7.heap.size Y7 u) (T := fun j => decide (j < 12)) (by kernel_rfl) ?_
            obtain ⟨U0, hU0⟩ : ∃ U0, Hid (Y7.drew = U0) := ⟨_, hide rfl⟩
            have hS0 : Hid (Below Y7.heap.size Y7 U0) := hide (by rw [← hU0.out]; exact hself7d)
            rw [hU0.out]
            refine wpAnyU_take (i := 0) (v := ?_) (by simp only [List.getElem?_toArray, List.getElem?_cons_succ, List.getElem?_cons_zero]; rfl) (by kernel_rfl) (by kernel_rfl) (by kernel_rfl) (by kernel_rfl) (by exact fun _ _ _ h => h) (Or.inl ⟨by rfl, ?_⟩) (by exact hS0.out) ?_
            rotate_left
            · intro w9 hSw
              go_simp
              all_goals with_reducible rfl
            try simp only [Act.put, List.setIfInBounds_toArray, List.set_cons_zero, List.set_cons_succ]
            refine wpAnyU_take (i := 1) (v := ?_) (by simp only [List.getElem?_toArray, List.getElem?_cons_succ, List.getElem?_cons_zero]; rfl) (by kernel_rfl) (by kernel_rfl) (by kernel_rfl) (by kernel_rfl) (by exact fun _ _ _ h => h) (Or.inl ⟨by rfl, ?_⟩) (by exact hS0.out) ?_
            rotate_left
            · intro w9 hSw
              go_simp
              all_goals with_reducible rfl
            try simp only [Act.put, List.setIfInBounds_toArray, List.set_cons_zero, List.set_cons_succ]
            refine wpAnyU_take (i := 2) (v := ?_) (by simp only [List.getElem?_toArray, List.getElem?_cons_succ, List.getElem?_cons_zero]; rfl) (by kernel_rfl) (by kernel_rfl) (by kernel_rfl) (by kernel_rfl) (by exact fun _ _ _ h => h) (Or.inl ⟨by rfl, ?_⟩) (by exact hS0.out) ?_
            rotate_left
            · intro w9 hSw
              go_simp
              all_goals with_reducible rfl
            try simp only [Act.put, List.setIfInBounds_toArray, List.set_cons_zero, List.set_cons_succ]
            refine wpAnyU_take (i := 3) (v := ?_) (by simp only [List.getElem?_toArray, List.getElem?_cons_succ, List.getElem?_cons_zero]; rfl) (by kernel_rfl) (by kernel_rfl) (by kernel_rfl) (by kernel_rfl) (by exact fun _ _ _ h => h) (Or.inl ⟨by rfl, ?_⟩) (by exact hS0.out) ?_
            rotate_left
            · intro w9 hSw
              go_simp
              all_goals with_reducible rfl
            try simp only [Act.put, List.setIfInBounds_toArray, List.set_cons_zero, List.set_cons_succ]
            refine wpAnyU_take (i := 4) (v := ?_) (by simp only [List.getElem?_toArray, List.getElem?_cons_succ, List.getElem?_cons_zero]; rfl) (by kernel_rfl) (by kernel_rfl) (by kernel_rfl) (by kernel_rfl) (by exact fun _ _ _ h => h) (Or.inl ⟨by rfl, ?_⟩) (by exact hS0.out) ?_
            rotate_left
            · intro w9 hSw
              go_simp
              all_goals with_reducible rfl
            try simp only [Act.put, List.setIfInBounds_toArray, List.set_cons_zero, List.set_cons_succ]
            refine wpAnyU_take (i := 5) (v := ?_) (by simp only [List.getElem?_toArray, List.getElem?_cons_succ, List.getElem?_cons_zero]; rfl) (by kernel_rfl) (by kernel_rfl) (by kernel_rfl) (by kernel_rfl) (by exact fun _ _ _ h => h) (Or.inl ⟨by rfl, ?_⟩) (by exact hS0.out) ?_
            rotate_left
            · intro w9 hSw
              go_simp
              all_goals with_reducible rfl
            try simp only [Act.put, List.setIfInBounds_toArray, List.set_cons_zero, List.set_cons_succ]
            refine wpAnyU_take (i := 6) (v := ?_) (by simp only [List.getElem?_toArray, List.getElem?_cons_succ, List.getElem?_cons_zero]; rfl) (by kernel_rfl) (by kernel_rfl) (by kernel_rfl) (by kernel_rfl) (by exact fun _ _ _ h => h) (Or.inl ⟨by rfl, ?_⟩) (by exact hS0.out) ?_
            rotate_left
            · intro w9 hSw
              go_simp
              all_goals with_reducible rfl
            try simp only [Act.put, List.setIfInBounds_toArray, List.set_cons_zero, List.set_cons_succ]
            refine wpAnyU_take (i := 7) (v := ?_) (by simp only [List.getElem?_toArray, List.getElem?_cons_succ, List.getElem?_cons_zero]; rfl) (by kernel_rfl) (by kernel_rfl) (by kernel_rfl) (by kernel_rfl) (by exact fun _ _ _ h => h) (Or.inl ⟨by rfl, ?_⟩) (by exact hS0.out) ?_
            rotate_left
            · intro w9 hSw
              go_simp
              all_goals with_reducible rfl
            try simp only [Act.put, List.setIfInBounds_toArray, List.set_cons_zero, List.set_cons_succ]
            refine wpAnyU_take (i := 8) (v := ?_) (by simp only [List.getElem?_toArray, List.getElem?_cons_succ, List.getElem?_cons_zero]; rfl) (by kernel_rfl) (by kernel_rfl) (by kernel_rfl) (by kernel_rfl) (by exact fun _ _ _ h => h) (Or.inl ⟨by rfl, ?_⟩) (by exact hS0.out) ?_
            rotate_left
            · intro w9 hSw
              go_simp
              all_goals with_reducible rfl
            try simp only [Act.put, List.setIfInBounds_toArray, List.set_cons_zero, List.set_cons_succ]
            refine wpAnyU_ready (rs := [9]) (by kernel_rfl) (by simp) ?_
            refine AllReadyU.cons (by simp only [List.getElem?_toArray, List.getElem?_cons_succ, List.getElem?_cons_zero]; rfl) (fun K hK => ?_) AllReadyU.nil
            go_simp
            obtain ⟨ga, hga⟩ : ∃ ga, Hid (U0.heap.size = ga) := ⟨_, hide rfl⟩
            obtain ⟨U1, hU1⟩ : ∃ U1, Hid (U0.alloc (.cells #[.int .i64 p.kind, .int .i64 p.num, .int .u64 p.bits, .int .i64 2, .int .i64 0, .int .u64 z] 42) = U1) := ⟨_, hide rfl⟩
            have hS1 : Hid (Below Y7.heap.size Y7 U1) := hide (by rw [← hU1.out]; exact hS0.out.alloc hS0.out.size _)
            have hA1 : Hid (U1.heap[ga]? = some (.cells #[.int .i64 p.kind, .int .i64 p.num, .int .u64 p.bits, .int .i64 2, .int .i64 0, .int .u64 z] 42 (0, 0))) := hide (by rw [← hU1.out, ← hga.out]; exact box_top _ _)
            rw [hU1.out, hga.out]
            refine hK.out _ _ (fun _ => hS1.out) ?_
            clear hK K
            try simp only [Act.put, List.setIfInBounds_toArray, List.set_cons_zero, List.set_cons_succ]
            refine wpAnyU_take (i := 10) (v := ?_) (by simp only [List.getElem?_toArray, List.getElem?_cons_succ, List.getElem?_cons_zero]; rfl) (by kernel_rfl) (by kernel_rfl) (by kernel_rfl) (by kernel_rfl) (by exact fun _ _ _ h => h) (Or.inl ⟨by rfl, ?_⟩) (by exact hS1.out) ?_
            rotate_left
            · intro w9 hSw
              go_simp
              all_goals with_reducible rfl
            try simp only [Act.put, List.setIfInBounds_toArray, List.set_cons_zero, List.set_cons_succ]
            refine wpAnyU_ready (rs := [11]) (by kernel_rfl) (by simp) ?_
            refine AllReadyU.cons (by simp only [List.getElem?_toArray, List.getElem?_cons_succ, List.getElem?_cons_zero]; rfl) (fun K hK => ?_) AllReadyU.nil
            go_simp
            obtain ⟨gi, hgi⟩ : ∃ gi, Hid (U1.heap.size = gi) := ⟨_, hide rfl⟩
            obtain ⟨U2, hU2⟩ : ∃ U2, Hid (U1.alloc (.cells #[.int .i64 29, .int .i64 r, .int .i64 65, .int .i64 0, .int .i64 0, .slice (some ⟨ga, 0, none⟩) 2 2, .slice none 0 0] 39) = U2) := ⟨_, hide rfl⟩
            have hS2 : Hid (Below Y7.heap.size Y7 U2) := hide (by rw [← hU2.out]; exact hS1.out.alloc hS1.out.size _)
            have hA2 : Hid (U2.heap[ga]? = some (.cells #[.int .i64 p.kind, .int .i64 p.num, .int .u64 p.bits, .int .i64 2, .int .i64 0, .int .u64 z] 42 (0, 0))) := hide (by rw [← hU2.out]; exact (Below.heap_alloc _ _ _ (lt_of hA1.out)).trans hA1.out)
            have hI2 : Hid (U2.heap[gi]? = some (.cells #[.int .i64 29, .int .i64 r, .int .i64 65, .int .i64 0, .int .i64 0, .slice (some ⟨ga, 0, none⟩) 2 2, .slice none 0 0] 39 (0, 0))) := hide (by rw [← hU2.out, ← hgi.out]; exact box_top _ _)
            rw [hU2.out, hgi.out]
            refine hK.out _ _ (fun _ => hS2.out) ?_
            clear hK K
            try simp only [Act.put, List.setIfInBounds_toArray, List.set_cons_zero, List.set_cons_succ]
            refine wpAnyU_ready (rs := [12]) (by kernel_rfl) (by simp) ?_
            refine AllReadyU.cons (by simp only [List.getElem?_toArray, List.getElem?_cons_succ, List.getElem?_cons_zero]; rfl) (fun K hK => ?_) AllReadyU.nil
            obtain ⟨xs, hxs⟩ := hSp7.out.row hn0.out
            have hxs2 := row_kept hxs (w' := U2) fun k hk => hS2.out.block k (row_lt hxs hk).2.1
            refine step_append_lies U2 rfl (.tmp 90) (.tmp 97) _ rfl L 39 i0 _ 7 88 Try.underlying34 hi0.out hz0.out hz1.out hz2.out rfl (by omega) (.slice (some ⟨kc, 0, none⟩) n0 Cc) _ _ rfl hxs2 ⟨gi, 0, none⟩ 1 1 [.int .i64 29, .int .i64 r, .int .i64 65, .int .i64 0, .int .i64 0, .slice (some ⟨ga, 0, none⟩) 2 2, .slice none 0 0] rfl rfl ?c1 ?c2 (by omega) ?c3 ?c4 ?c5 U2.heap.size rfl ?_
            case c1 => exact World.news_of_block (cs := #[.int .i64 29, .int .i64 r, .int .i64 65, .int .i64 0, .int .i64 0, .slice (some ⟨ga, 0, none⟩) 2 2, .slice none 0 0]) (t := 39) (fr := (0, 0)) hI2.out
            case c2 => simp [Value.oneCell']
            case c3 => unfold maxLen; omega
            case c4 => omega
            case c5 => have := hS2.out.size; have := hL7.out; omega
            intro g1 C1 U3 hown hgr hq3 hlt9
            have hSp3 := hide (spl_app1 hSp7.out hn0.out hS2.out hgr hxs hA2.out hp.out hrI.out (by have := hS0.out.size; have := hga.out; have := hL7.out; omega) hown (by rcases hq3 with h | h; exact .inl h; exact .inr (by have := hS2.out.size; omega)))
            have hon3 := hide (on_grown (S := fun _ => False) (Q := fun q => q = kc ∨ q = gB) (Only.of_below hS2.out) hS2.out.size hgr (fun k hk => .inl (by simpa [Value.ownBlock] using hk.symm)) (fun k hk => hk.elim))
            have hg1 : Hid (g1 = kc ∨ Y7.heap.size ≤ g1) := hide (by rcases hq3 with h | h; exact .inl (by simpa [Value.ownBlock] using h.symm); exact .inr (by have := hS2.out.size; omega))
            clear hown hgr hq3 hlt9 hxs hxs2
            refine hK.out _ _ (fun h => absurd h (by decide)) ?_
            clear hK K
            try simp only [Act.put, List.setIfInBounds_toArray, List.set_cons_zero, List.set_cons_succ]
            refine wpAnyU_takeY (i := 13) (v := ?_) (by simp only [List.getElem?_toArray, List.getElem?_cons_succ, List.getElem?_cons_zero]; rfl) (by kernel_rfl) (by kernel_rfl) (by kernel_rfl) (by rfl) (by exact fun _ _ _ h => h) (Or.inl ⟨by rfl, ?_⟩) ?_
            rotate_left
            · intro w9 hSw
              go_simp
              all_goals with_reducible rfl
            try simp only [Act.put, List.setIfInBounds_toArray, List.set_cons_zero, List.set_cons_succ]
            refine wpAnyU_done (by kernel_rfl) ?_ _
            obtain ⟨⟨B9, m9, c9B, hB9⟩, hB9f⟩ := hSp3.out.blk
            have hU3 := hide hon3.out.size
            have b3c : U3.cell? ⟨X5.heap.size, 3, none⟩ = some (.slice (some ⟨gB, 0, none⟩) N C) := only_fact9 hk7.out.2.2.2 (by have := hgk.out; omega) (by have := hgk.out; omega) U3 hon3.out
            obtain ⟨U4, hU4⟩ : ∃ U4, Hid (U3.setCell ⟨gB, 0, none⟩ (.slice (some ⟨g1, 0, none⟩) (n0 + 1) C1) = U4) := ⟨_, hide rfl⟩
            obtain ⟨hK4, hSp4⟩ := hSp3.out.shut ⟨_, _, _, rfl⟩
            have hon4 := hon3.out.setCell (p := ⟨gB, 0, none⟩) (.inl (.inr rfl)) (.slice (some ⟨g1, 0, none⟩) (n0 + 1) C1)
            rw [hU4.out] at hK4 hSp4 hon4
            replace hK4 := hide hK4
            obtain ⟨s, hsle, hsf⟩ := fresh_exists ((l0 ++ [gepI r p z]) :: rest).flatten f.params.length
            have hparts2 : Hid (partsL ((l0 ++ [gepI r p z]) :: rest).flatten ≤ 4000000 ∧ f.params.length ≤ 2000000) := hide (by
              have h1 := hparts.out
              rw [hfb.out] at h1
              simp only [List.flatten_cons, partsL_append] at h1 ⊢
              have h2 : partsL [gepI r p z] = 3 := rfl
              omega)
            have hsI : Hid (I64 (s : Int)) := hide (by have := hparts2.out; exact i64_mk (by omega) (by omega))
            replace hsf := hide hsf
            replace hsle := hide hsle
            have hc4 : Hid (OwnI U4 X4.heap.size (.slice Ac np Cc0) f.params) := hide (own_kept2 hc7.out hon4 fun k hk hq9 => by
              have h1 := hcL'.out k hk
              rcases hq9 with h | h <;> subst h <;> omega)
            have hf4 : Hid (U4.cell? ⟨X5.heap.size, 0, none⟩ = some (.string f.name) ∧ U4.cell? ⟨X5.heap.size, 1, none⟩ = some (.slice Ac np Cc0) ∧ U4.cell? ⟨X5.heap.size, 2, none⟩ = some (.int .i64 f.ret) ∧ U4.cell? ⟨X5.heap.size, 3, none⟩ = some (.slice (some ⟨gB, 0, none⟩) N C)) := hide (by
              have hk := hgk.out
              have h7 := hk7.out
              exact ⟨only_fact9 h7.1 (by omega) (by omega) U4 hon4, only_fact9 h7.2.1 (by omega) (by omega) U4 hon4, only_fact9 h7.2.2.1 (by omega) (by omega) U4 hon4, only_fact9 h7.2.2.2 (by omega) (by omega) U4 hon4⟩)
            have f40 := hf4.out.1
            have f41 := hf4.out.2.1
            have f42 := hf4.out.2.2.1
            have f43 := hf4.out.2.2.2
            have cF2 : Hid (Calls Try.prog 14 #[f.v (.slice Ac np Cc0) (.slice (some ⟨gB, 0, none⟩) N C)] U4 fun e w'' => e = .returned (.int .i64 s) ∧ Below U4.heap.size U4 w'') := hide (by
              have hp2 := hparts2.out
              have hl := hsle.out
              exact rfresh_any (setBlocks f ((l0 ++ [gepI r p z]) :: rest)) s _ _ U4 U4.heap.size (Nat.le_refl _) hc4.out.rep (by rw [hNr.out]; have := hK4.out.rep; rw [hNr.out] at this; exact this) (by have h9 : partsL (setBlocks f ((l0 ++ [gepI r p z]) :: rest)).blocks.flatten ≤ 4000000 := hp2.1; omega) hsf.out (by omega))
            replace hSp4 := hide hSp4
            replace hon4 := hide hon4
            go_upto_region 18 with (fail)
            rw [hU4.out]
            go_wp2_with (fail)
            refine cF2.out.mono ?_
            rintro e U5 ⟨rfl, hb45⟩
            have hb5s := hb45.size
            have hSp5 := hide (hSp4.out.below hb45)
            have hn1 : Hid (n0 + 1 = (l0 ++ [gepI r p z]).length) := hide (by rw [hn0.out]; simp)
            have hon5 := hide (hon4.out.then_below (Nat.le_refl _) hb45)
            have hU57 : Y7.heap.size ≤ U5.heap.size := hon5.out.size
            have hL5 : Hid (L ≤ U5.heap.size) := hide (by have := hL7.out; omega)
            have hk9 := hgk.out
            have hee : Hid (OwnV U5 L (.slice Ae ne Ce) e0.args ∧ OwnI U5 L (.slice At nt Ct) e0.to ∧ InsOk e0) := hide (by
              have h1 := spl_inner hSp7.out hn0.out hon5.out hva7.out hvt7.out
              exact ⟨h1.1, h1.2, hvi.out⟩)
            have hgn := hg1.out
            have v0 := only_fact9 hk7.out.1 (by omega) (by omega) U5 hon5.out
            have v1c := only_fact9 hk7.out.2.1 (by omega) (by omega) U5 hon5.out
            have v2c := only_fact9 hk7.out.2.2.1 (by omega) (by omega) U5 hon5.out
            have v3c := only_fact9 hk7.out.2.2.2 (by omega) (by omega) U5 hon5.out
            have hVU' := hVU.out
            have p0c := only_fact9 hp7.out.1 (by omega) (by omega) U5 hon5.out
            have p1c := only_fact9 hp7.out.2.1 (by omega) (by omega) U5 hon5.out
            have p2c := only_fact9 hp7.out.2.2 (by omega) (by omega) U5 hon5.out
            have q0c := only_fact9 hq7.out.1 (by omega) (by omega) U5 hon5.out
            have q1c := only_fact9 hq7.out.2.1 (by omega) (by omega) U5 hon5.out
            have q2c := only_fact9 hq7.out.2.2 (by omega) (by omega) U5 hon5.out
            have f0c := only_fact9 hf7.out.1 (by omega) (by omega) U5 hon5.out
            have f1c := only_fact9 hf7.out.2.1 (by omega) (by omega) U5 hon5.out
            have f2c := only_fact9 hf7.out.2.2.1 (by omega) (by omega) U5 hon5.out
            have f3c := only_fact9 hf7.out.2.2.2 (by omega) (by omega) U5 hon5.out
            have w0c := only_fact9 hw7.out.1 (by omega) (by omega) U5 hon5.out
            have w1c := only_fact9 hw7.out.2.1 (by omega) (by omega) U5 hon5.out
            have w2c := only_fact9 hw7.out.2.2.1 (by omega) (by omega) U5 hon5.out
            have w3c := only_fact9 hw7.out.2.2.2.1 (by omega) (by omega) U5 hon5.out
            have w4c := only_fact9 hw7.out.2.2.2.2.1 (by omega) (by omega) U5 hon5.out
            have w5c := only_fact9 hw7.out.2.2.2.2.2.1 (by omega) (by omega) U5 hon5.out
            have w6c := only_fact9 hw7.out.2.2.2.2.2.2 (by omega) (by omega) U5 hon5.out
            have a3 : ∀ w', Only (fun q => q = kc ∨ q = gB ∨ q = g1) U5.heap.size U5 w' → w'.cell? ⟨X5.heap.size, 3, none⟩ = some (.slice (some ⟨gB, 0, none⟩) N C) := only_fact9 v3c (by omega) (by omega)
            have b0 : ∀ w', Only (fun q => q = kc ∨ q = gB ∨ q = g1) U5.heap.size U5 w' → w'.cell? ⟨w.heap.size + 1 + 1, 0, none⟩ = some (.int .i64 q.kind) := only_fact9 q0c (by omega) (by omega)
            have b1c : ∀ w', Only (fun q => q = kc ∨ q = gB ∨ q = g1) U5.heap.size U5 w' → w'.cell? ⟨w.heap.size + 1 + 1, 1, none⟩ = some (.int .i64 q.num) := only_fact9 q1c (by omega) (by omega)
            have b2c : ∀ w', Only (fun q => q = kc ∨ q = gB ∨ q = g1) U5.heap.size U5 w' → w'.cell? ⟨w.heap.size + 1 + 1, 2, none⟩ = some (.int .u64 q.bits) := only_fact9 q2c (by omega) (by omega)
            have m0c : ∀ w', Only (fun q => q = kc ∨ q = gB ∨ q = g1) U5.heap.size U5 w' → w'.cell? ⟨Y6.heap.size, 0, none⟩ = some (.int .i64 e0.op) := only_fact9 w0c (by omega) (by omega)
            have m1c : ∀ w', Only (fun q => q = kc ∨ q = gB ∨ q = g1) U5.heap.size U5 w' → w'.cell? ⟨Y6.heap.size, 1, none⟩ = some (.int .i64 e0.reg) := only_fact9 w1c (by omega) (by omega)
            have m2c : ∀ w', Only (fun q => q = kc ∨ q = gB ∨ q = g1) U5.heap.size U5 w' → w'.cell? ⟨Y6.heap.size, 2, none⟩ = some (.int .i64 e0.ty) := only_fact9 w2c (by omega) (by omega)
            have m3c : ∀ w', Only (fun q => q = kc ∨ q = gB ∨ q = g1) U5.heap.size U5 w' → w'.cell? ⟨Y6.heap.size, 3, none⟩ = some (.int .i64 e0.num) := only_fact9 w3c (by omega) (by omega)
            have m4c : ∀ w', Only (fun q => q = kc ∨ q = gB ∨ q = g1) U5.heap.size U5 w' → w'.cell? ⟨Y6.heap.size, 4, none⟩ = some (.int .i64 e0.flags) := only_fact9 w4c (by omega) (by omega)
            have m5c : ∀ w', Only (fun q => q = kc ∨ q = gB ∨ q = g1) U5.heap.size U5 w' → w'.cell? ⟨Y6.heap.size, 5, none⟩ = some (.slice Ae ne Ce) := only_fact9 w5c (by omega) (by omega)
            have m6c : ∀ w', Only (fun q => q = kc ∨ q = gB ∨ q = g1) U5.heap.size U5 w' → w'.cell? ⟨Y6.heap.size, 6, none⟩ = some (.slice At nt Ct) := only_fact9 w6c (by omega) (by omega)
            have hu5 : Hid (U5.cell? ⟨X5.heap.size, 0, none⟩ = some (.string f.name) ∧ U5.cell? ⟨X5.heap.size, 1, none⟩ = some (.slice Ac np Cc0) ∧ U5.cell? ⟨X5.heap.size, 2, none⟩ = some (.int .i64 f.ret) ∧ U5.cell? ⟨X5.heap.size, 3, none⟩ = some (.slice (some ⟨gB, 0, none⟩) N C)) := hide ⟨v0, v1c, v2c, v3c⟩
            have hpp5 : Hid (U5.cell? ⟨w.heap.size + 1, 0, none⟩ = some (.int .i64 p.kind) ∧ U5.cell? ⟨w.heap.size + 1, 1, none⟩ = some (.int .i64 p.num) ∧ U5.cell? ⟨w.heap.size + 1, 2, none⟩ = some (.int .u64 p.bits)) := hide ⟨p0c, p1c, p2c⟩
            have hqq5 : Hid (U5.cell? ⟨w.heap.size + 1 + 1, 0, none⟩ = some (.int .i64 q.kind) ∧ U5.cell? ⟨w.heap.size + 1 + 1, 1, none⟩ = some (.int .i64 q.num) ∧ U5.cell? ⟨w.heap.size + 1 + 1, 2, none⟩ = some (.int .u64 q.bits)) := hide ⟨q0c, q1c, q2c⟩
            have hff5 : Hid (U5.cell? ⟨V.heap.size, 0, none⟩ = some (.string f.name) ∧ U5.cell? ⟨V.heap.size, 1, none⟩ = some (.slice A1 np k1) ∧ U5.cell? ⟨V.heap.size, 2, none⟩ = some (.int .i64 f.ret) ∧ U5.cell? ⟨V.heap.size, 3, none⟩ = some (.slice A2 N k2)) := hide ⟨f0c, f1c, f2c, f3c⟩
            have hself5 := Below.refl U5.heap.size U5
            have hself5d := hself5.drew
            have hc5 : Hid (OwnI U5 X4.heap.size (.slice Ac np Cc0) f.params) := hide (hc4.out.below hb45)
            replace hU57 := hide hU57
            replace hk9 := hide hk9
            replace hgn := hide hgn
            replace hVU' := hide hVU'
            replace hb45 := hide hb45
            clear v0 v1c v2c v3c p0c p1c p2c q0c q1c q2c f0c f1c f2c f3c w0c w1c w2c w3c w4c w5c w6c f40 f41 f42 f43 b3c hB9 hB9f
            go_upto_region 19 with (fail)
            refine wp_region_U (S := fun u => Only (fun q => q = kc ∨ q = gB ∨ q = g1) U5.heap.size U5 u) (T := fun j => decide (j < 12)) (by kernel_rfl) ?_
            obtain ⟨V0, hV0⟩ : ∃ V0, Hid (U5.drew = V0) := ⟨_, hide rfl⟩
            have hT0 : Hid (Below U5.heap.size U5 V0) := hide (by rw [← hV0.out]; exact hself5d)
            have hS0' : Hid (Only (fun q => q = kc ∨ q = gB ∨ q = g1) U5.heap.size U5 V0) := hide (Only.of_below hT0.out)
            rw [hV0.out]
            clear hself5 hself5d
            refine wpAnyU_take (i := 0) (v := ?_) (by simp only [List.getElem?_toArray, List.getElem?_cons_succ, List.getElem?_cons_zero]; rfl) (by kernel_rfl) (by kernel_rfl) (by kernel_rfl) (by kernel_rfl) (by exact fun _ _ _ h => h) (Or.inl ⟨by rfl, ?_⟩) (by exact hS0'.out) ?_
            rotate_left
            · intro w9 hSw
              go_simp
              all_goals with_reducible rfl
            try simp only [Act.put, List.setIfInBounds_toArray, List.set_cons_zero, List.set_cons_succ]
            refine wpAnyU_take (i := 1) (v := ?_) (by simp only [List.getElem?_toArray, List.getElem?_cons_succ, List.getElem?_cons_zero]; rfl) (by kernel_rfl) (by kernel_rfl) (by kernel_rfl) (by kernel_rfl) (by exact fun _ _ _ h => h) (Or.inl ⟨by rfl, ?_⟩) (by exact hS0'.out) ?_
            rotate_left
            · intro w9 hSw
              go_simp
              all_goals with_reducible rfl
            try simp only [Act.put, List.setIfInBounds_toArray, List.set_cons_zero, List.set_cons_succ]
            refine wpAnyU_take (i := 2) (v := ?_) (by simp only [List.getElem?_toArray, List.getElem?_cons_succ, List.getElem?_cons_zero]; rfl) (by kernel_rfl) (by kernel_rfl) (by kernel_rfl) (by kernel_rfl) (by exact fun _ _ _ h => h) (Or.inl ⟨by rfl, ?_⟩) (by exact hS0'.out) ?_
            rotate_left
            · intro w9 hSw
              go_simp
              all_goals with_reducible rfl
            try simp only [Act.put, List.setIfInBounds_toArray, List.set_cons_zero, List.set_cons_succ]
            refine wpAnyU_take (i := 3) (v := ?_) (by simp only [List.getElem?_toArray, List.getElem?_cons_succ, List.getElem?_cons_zero]; rfl) (by kernel_rfl) (by kernel_rfl) (by kernel_rfl) (by kernel_rfl) (by exact fun _ _ _ h => h) (Or.inl ⟨by rfl, ?_⟩) (by exact hS0'.out) ?_
            rotate_left
            · intro w9 hSw
              go_simp
              all_goals with_reducible rfl
            try simp only [Act.put, List.setIfInBounds_toArray, List.set_cons_zero, List.set_cons_succ]
            refine wpAnyU_take (i := 4) (v := ?_) (by simp only [List.getElem?_toArray, List.getElem?_cons_succ, List.getElem?_cons_zero]; rfl) (by kernel_rfl) (by kernel_rfl) (by kernel_rfl) (by kernel_rfl) (by exact fun _ _ _ h => h) (Or.inl ⟨by rfl, ?_⟩) (by exact hS0'.out) ?_
            rotate_left
            · intro w9 hSw
              go_simp
              all_goals with_reducible rfl
            try simp only [Act.put, List.setIfInBounds_toArray, List.set_cons_zero, List.set_cons_succ]
            refine wpAnyU_take (i := 5) (v := ?_) (by simp only [List.getElem?_toArray, List.getElem?_cons_succ, List.getElem?_cons_zero]; rfl) (by kernel_rfl) (by kernel_rfl) (by kernel_rfl) (by kernel_rfl) (by exact fun _ _ _ h => h) (Or.inl ⟨by rfl, ?_⟩) (by exact hS0'.out) ?_
            rotate_left
            · intro w9 hSw
              go_simp
              all_goals with_reducible rfl
            try simp only [Act.put, List.setIfInBounds_toArray, List.set_cons_zero, List.set_cons_succ]
            refine wpAnyU_take (i := 6) (v := ?_) (by simp only [List.getElem?_toArray, List.getElem?_cons_succ, List.getElem?_cons_zero]; rfl) (by kernel_rfl) (by kernel_rfl) (by kernel_rfl) (by kernel_rfl) (by exact fun _ _ _ h => h) (Or.inl ⟨by rfl, ?_⟩) (by exact hS0'.out) ?_
            rotate_left
            · intro w9 hSw
              go_simp
              all_goals with_reducible rfl
            try simp only [Act.put, List.setIfInBounds_toArray, List.set_cons_zero, List.set_cons_succ]
            refine wpAnyU_take (i := 9) (v := ?_) (by simp only [List.getElem?_toArray, List.getElem?_cons_succ, List.getElem?_cons_zero]; rfl) (by kernel_rfl) (by kernel_rfl) (by kernel_rfl) (by kernel_rfl) (by exact fun _ _ _ h => h) (Or.inl ⟨by rfl, ?_⟩) (by exact hS0'.out) ?_
            rotate_left
            · intro w9 hSw
              go_simp
              all_goals with_reducible rfl
            try simp only [Act.put, List.setIfInBounds_toArray, List.set_cons_zero, List.set_cons_succ]
            refine wpAnyU_ready (rs := [7]) (by kernel_rfl) (by simp) ?_
            refine AllReadyU.cons (by simp only [List.getElem?_toArray, List.getElem?_cons_succ, List.getElem?_cons_zero]; rfl) (fun K hK => ?_) AllReadyU.nil
            go_simp
            obtain ⟨gb, hgb⟩ : ∃ gb, Hid (V0.heap.size = gb) := ⟨_, hide rfl⟩
            obtain ⟨V1, hV1⟩ : ∃ V1, Hid (V0.alloc (.cells #[.int .i64 q.kind, .int .i64 q.num, .int .u64 q.bits, .int .i64 2, .int .i64 0, .int .u64 z] 42) = V1) := ⟨_, hide rfl⟩
            have hS1' : Hid (Only (fun q => q = kc ∨ q = gB ∨ q = g1) U5.heap.size U5 V1) := hide (by rw [← hV1.out]; exact hS0'.out.alloc hS0'.out.size _)
            have hT1 : Hid (Below U5.heap.size U5 V1) := hide (by rw [← hV1.out]; exact hT0.out.alloc hT0.out.size _)
            have hB1 : Hid (V1.heap[gb]? = some (.cells #[.int .i64 q.kind, .int .i64 q.num, .int .u64 q.bits, .int .i64 2, .int .i64 0, .int .u64 z] 42 (0, 0))) := hide (by rw [← hV1.out, ← hgb.out]; exact box_top _ _)
            rw [hV1.out, hgb.out]
            refine hK.out _ _ (fun _ => hS1'.out) ?_
            clear hK K
            try simp only [Act.put, List.setIfInBounds_toArray, List.set_cons_zero, List.set_cons_succ]
            refine wpAnyU_take (i := 8) (v := ?_) (by simp only [List.getElem?_toArray, List.getElem?_cons_succ, List.getElem?_cons_zero]; rfl) (by kernel_rfl) (by kernel_rfl) (by kernel_rfl) (by kernel_rfl) (by exact fun _ _ _ h => h) (Or.inl ⟨by rfl, ?_⟩) (by exact hS1'.out) ?_
            rotate_left
            · intro w9 hSw
              go_simp
              all_goals with_reducible rfl
            try simp only [Act.put, List.setIfInBounds_toArray, List.set_cons_zero, List.set_cons_succ]
            refine wpAnyU_ready (rs := [10]) (by kernel_rfl) (by simp) ?_
            refine AllReadyU.cons (by simp only [List.getElem?_toArray, List.getElem?_cons_succ, List.getElem?_cons_zero]; rfl) (fun K hK => ?_) AllReadyU.nil
            go_simp
            obtain ⟨gj, hgj⟩ : ∃ gj, Hid (V1.heap.size = gj) := ⟨_, hide rfl⟩
            obtain ⟨V2, hV2⟩ : ∃ V2, Hid (V1.alloc (.cells #[.int .i64 29, .int .i64 s, .int .i64 65, .int .i64 0, .int .i64 0, .slice (some ⟨gb, 0, none⟩) 2 2, .slice none 0 0, .int .i64 e0.op, .int .i64 e0.reg, .int .i64 e0.ty, .int .i64 e0.num, .int .i64 e0.flags, .slice Ae ne Ce, .slice At nt Ct] 39) = V2) := ⟨_, hide rfl⟩
            have hS2' : Hid (Only (fun q => q = kc ∨ q = gB ∨ q = g1) U5.heap.size U5 V2) := hide (by rw [← hV2.out]; exact hS1'.out.alloc hS1'.out.size _)
            have hT2 : Hid (Below U5.heap.size U5 V2) := hide (by rw [← hV2.out]; exact hT1.out.alloc hT1.out.size _)
            have hB2 : Hid (V2.heap[gb]? = some (.cells #[.int .i64 q.kind, .int .i64 q.num, .int .u64 q.bits, .int .i64 2, .int .i64 0, .int .u64 z] 42 (0, 0))) := hide (by rw [← hV2.out]; exact (Below.heap_alloc _ _ _ (lt_of hB1.out)).trans hB1.out)
            have hJ2 : Hid (V2.heap[gj]? = some (.cells #[.int .i64 29, .int .i64 s, .int .i64 65, .int .i64 0, .int .i64 0, .slice (some ⟨gb, 0, none⟩) 2 2, .slice none 0 0, .int .i64 e0.op, .int .i64 e0.reg, .int .i64 e0.ty, .int .i64 e0.num, .int .i64 e0.flags, .slice Ae ne Ce, .slice At nt Ct] 39 (0, 0))) := hide (by rw [← hV2.out, ← hgj.out]; exact box_top _ _)
            rw [hV2.out, hgj.out]
            refine hK.out _ _ (fun _ => hS2'.out) ?_
            clear hK K
            try simp only [Act.put, List.setIfInBounds_toArray, List.set_cons_zero, List.set_cons_succ]
            refine wpAnyU_ready (rs := [11]) (by kernel_rfl) (by simp) ?_
            refine AllReadyU.cons (by simp only [List.getElem?_toArray, List.getElem?_cons_succ, List.getElem?_cons_zero]; rfl) (fun K hK => ?_) AllReadyU.nil
            obtain ⟨xs, hxs⟩ := hSp5.out.row hn1.out
            have hxs2 := row_kept hxs (w' := V2) fun k hk => hT2.out.block k (row_lt hxs hk).2.1
            refine step_append_lies V2 rfl (.tmp 108) (.tmp 116) _ rfl L 39 i0 _ 7 88 Try.underlying34 hi0.out hz0.out hz1.out hz2.out rfl (by omega) (.slice (some ⟨g1, 0, none⟩) (n0 + 1) C1) _ _ rfl hxs2 ⟨gj, 0, none⟩ 2 2 [.int .i64 29, .int .i64 s, .int .i64 65, .int .i64 0, .int .i64 0, .slice (some ⟨gb, 0, none⟩) 2 2, .slice none 0 0, .int .i64 e0.op, .int .i64 e0.reg, .int .i64 e0.ty, .int .i64 e0.num, .int .i64 e0.flags, .slice Ae ne Ce, .slice At nt Ct] rfl rfl ?c1 ?c2 (by omega) ?c3 ?c4 ?c5 V2.heap.size rfl ?_
            case c1 => exact World.news_of_block (cs := #[.int .i64 29, .int .i64 s, .int .i64 65, .int .i64 0, .int .i64 0, .slice (some ⟨gb, 0, none⟩) 2 2, .slice none 0 0, .int .i64 e0.op, .int .i64 e0.reg, .int .i64 e0.ty, .int .i64 e0.num, .int .i64 e0.flags, .slice Ae ne Ce, .slice At nt Ct]) (t := 39) (fr := (0, 0)) hJ2.out
            case c2 => simp [Value.oneCell']
            case c3 => unfold maxLen; omega
            case c4 => omega
            case c5 => have := hT2.out.size; have := hL5.out; omega
            intro g2 C2 V3 hown hgr hq3 hlt9
            have hSp6 := hide (spl_app2 hSp5.out hn1.out hT2.out hgr hxs hB2.out hq.out hsI.out (by have := hT0.out.size; have := hgb.out; have := hL5.out; omega) hee.out hown (by rcases hq3 with h | h; exact .inl h; exact .inr (by have := hT2.out.size; omega)))
            have hS3' := hide (on_grown (S := fun q => q = kc ∨ q = gB ∨ q = g1) (Q := fun q => q = kc ∨ q = gB ∨ q = g1) hS2'.out hS2'.out.size hgr (fun k hk => .inr (.inr (by simpa [Value.ownBlock] using hk.symm))) (fun k hk => hk))
            obtain ⟨⟨B8, m8, c8, hz3⟩, hy3⟩ := hSp6.out.blk
            clear hown hgr hq3 hlt9 hxs hxs2
            refine hK.out _ _ (fun _ => hS3'.out) ?_
            clear hK K
            try simp only [Act.put, List.setIfInBounds_toArray, List.set_cons_zero, List.set_cons_succ]
            refine wpAnyU_takeY (i := 12) (v := ?_) (by simp only [List.getElem?_toArray, List.getElem?_cons_succ, List.getElem?_cons_zero]; rfl) (by kernel_rfl) (by kernel_rfl) (by kernel_rfl) (by rfl) (by exact fun _ _ _ h => h) (Or.inl ⟨by rfl, ?_⟩) ?_
            rotate_left
            · intro w9 hSw
              go_simp
              all_goals with_reducible rfl
            try simp only [Act.put, List.setIfInBounds_toArray, List.set_cons_zero, List.set_cons_succ]
            refine wpAnyU_takeY (i := 13) (v := ?_) (by simp only [List.getElem?_toArray, List.getElem?_cons_succ, List.getElem?_cons_zero]; rfl) (by kernel_rfl) (by kernel_rfl) (by kernel_rfl) (by rfl) (by exact fun _ _ _ h => h) (Or.inl ⟨by rfl, ?_⟩) ?_
            rotate_left
            · intro w9 hSw
              go_simp
              all_goals with_reducible rfl
            try simp only [Act.put, List.setIfInBounds_toArray, List.set_cons_zero, List.set_cons_succ]
            refine wpAnyU_ready (rs := [14]) (by kernel_rfl) (by simp) ?_
            refine AllReadyU.cons (by simp only [List.getElem?_toArray, List.getElem?_cons_succ, List.getElem?_cons_zero]; rfl) (fun K hK => ?_) AllReadyU.nil
            go_simp
            refine hK.out _ _ (fun h => absurd h (by decide)) ?_
            clear hK K
            try simp only [Act.put, List.setIfInBounds_toArray, List.set_cons_zero, List.set_cons_succ]
            refine wpAnyU_done (by kernel_rfl) ?_ _
            obtain ⟨U7, hU7e⟩ : ∃ U7, Hid (V3.setCell ⟨gB, 0, none⟩ (.slice (some ⟨g2, 0, none⟩) (n0 + 1 + 2) C2) = U7) := ⟨_, hide rfl⟩
            obtain ⟨hK7, -⟩ := hSp6.out.shut ⟨_, _, _, rfl⟩
            have hon7 := hS3'.out.setCell (p := ⟨gB, 0, none⟩) (.inl (.inr (.inl rfl))) (.slice (some ⟨g2, 0, none⟩) (n0 + 1 + 2) C2)
            rw [hU7e.out] at hK7 hon7 ⊢
            have hbs : Hid (((l0 ++ [gepI r p z]) ++ [gepI s q z, e0]) :: rest = shB l0 e0 rest r s p q z) := hide (by simp [shB])
            rw [hbs.out] at hK7
            have hU7s := hon7.size
            have hk9 := hgk.out
            have hgn := hg1.out
            have hVU' := hVU.out
            have hU57 := hon5.out.size
            have v0 := below_fact9 (only_fact9 hu5.out.1 (by omega) (by omega) U7 hon7) (by omega)
            have v1c := below_fact9 (only_fact9 hu5.out.2.1 (by omega) (by omega) U7 hon7) (by omega)
            have v2c := below_fact9 (only_fact9 hu5.out.2.2.1 (by omega) (by omega) U7 hon7) (by omega)
            have v3c := below_fact9 (only_fact9 hu5.out.2.2.2 (by omega) (by omega) U7 hon7) (by omega)
            have p0c := below_fact9 (only_fact9 hpp5.out.1 (by omega) (by omega) U7 hon7) (by omega)
            have p1c := below_fact9 (only_fact9 hpp5.out.2.1 (by omega) (by omega) U7 hon7) (by omega)
            have p2c := below_fact9 (only_fact9 hpp5.out.2.2 (by omega) (by omega) U7 hon7) (by omega)
            have q0c := below_fact9 (only_fact9 hqq5.out.1 (by omega) (by omega) U7 hon7) (by omega)
            have q1c := below_fact9 (only_fact9 hqq5.out.2.1 (by omega) (by omega) U7 hon7) (by omega)
            have q2c := below_fact9 (only_fact9 hqq5.out.2.2 (by omega) (by omega) U7 hon7) (by omega)
            have f0c := below_fact9 (only_fact9 hff5.out.1 (by omega) (by omega) U7 hon7) (by omega)
            have f1c := below_fact9 (only_fact9 hff5.out.2.1 (by omega) (by omega) U7 hon7) (by omega)
            have f2c := below_fact9 (only_fact9 hff5.out.2.2.1 (by omega) (by omega) U7 hon7) (by omega)
            have f3c := below_fact9 (only_fact9 hff5.out.2.2.2 (by omega) (by omega) U7 hon7) (by omega)
            have hZY7 := hUZ.out Y7 (hU7.out Y7 (Below.refl _ _))
            have hZs9 := hZY7.size
            have hZ7 : Hid (∀ w', Below U7.heap.size U7 w' → Below Z.heap.size Z w') := hide (fun w' h => by
              have h1 : Below Z.heap.size Y7 U5 := hon5.out.to_below (fun k hk => by rcases hk with h | h <;> subst h <;> omega) (by omega)
              have h2 : Below Z.heap.size U5 U7 := hon7.to_below (fun k hk => by rcases hk with h | h | h <;> subst h <;> omega) (by omega)
              exact hZY7.trans (h1.trans (h2.trans (h.mono (by omega)))))
            obtain ⟨a0, ha0⟩ : ∃ a0, Hid (a0 = askS f.params.length f.blocks p t q u) := ⟨_, hide rfl⟩
            have cA1 : Hid (∀ w', Below U7.heap.size U7 w' → Calls Try.prog 11 #[f.v (.slice A1 np k1) (.slice A2 N k2), .agg #[.int .i64 p.kind, .int .i64 p.num, .int .u64 p.bits], .int .i64 t, .agg #[.int .i64 q.kind, .int .i64 q.num, .int .u64 q.bits], .int .i64 u] w' (RetV (.int .i64 a0) w')) := hide (fun w' h => cA.out p q t u a0 hp.out hq.out ha0.out.symm w' (hZ7.out w' h))
            have hc7' : OwnI U7 X4.heap.size (.slice Ac np Cc0) f.params := own_kept2 hc5.out hon7 fun k hk hq9 => by
              have h1 := hcL'.out k hk
              have h2 := (row_lt hc5.out.row hk).2.1
              rcases hq9 with h | h | h
              · subst h; omega
              · subst h; omega
              · subst h
                rcases hgn with h3 | h3
                · omega
                · have h4 := hL7.out
                  omega
            have hK7' := hide hK7
            replace hc7' := hide hc7'
            have cA2 : Hid (∀ w', Below U7.heap.size U7 w' → Calls Try.prog 11 #[f.v (.slice Ac np Cc0) (.slice (some ⟨gB, 0, none⟩) N C), .agg #[.int .i64 1, .int .i64 r, .int .u64 0], .int .i64 t, .agg #[.int .i64 1, .int .i64 s, .int .u64 0], .int .i64 u] w' (RetV (.int .i64 a0) w')) := hide (fun w' h => by
              have h1 := hc7'.out.kept (w' := w') fun k _ hk => h.block k hk
              have h2 := hK7'.out.kept (w' := w') fun k _ hk => h.block k hk
              have h3 := fun_of_own (f := setBlocks f (shB l0 e0 rest r s p q z)) (L := X4.heap.size) h1 (h2.mono hLs) hra.out rfl rfl
              have h4 := asked_any (setBlocks f (shB l0 e0 rest r s p q z)) ⟨1, r, 0⟩ ⟨1, s, 0⟩ t u ⟨o64.out, hrI.out⟩ ⟨o64.out, hsI.out⟩ _ _ w' w'.heap.size (Nat.le_refl _) h3 (by
                have := hfz.out
                rw [shift_size hfb.out]
                omega)
              have h5 := shift_law hfr.out hfb.out hen hrf.out hsf.out hR.out hG.out t u
              have h6 : askS (setBlocks f (shB l0 e0 rest r s p q z)).params.length (setBlocks f (shB l0 e0 rest r s p q z)).blocks ⟨1, r, 0⟩ t ⟨1, s, 0⟩ u = a0 := by
                rw [ha0.out, h5]
                rfl
              rw [h6] at h4
              exact h4)
            have hyy : (a0 != a0) = false := by simp
            have hself7' := Below.refl U7.heap.size U7
            replace hK7 := hide hK7
            replace hon7 := hide hon7
            replace hk9 := hide hk9
            replace hgn := hide hgn
            replace hVU' := hide hVU'
            replace hU57 := hide hU57
            replace hZY7 := hide hZY7
            clear a3 b0 b1c b2c m0c m1c m2c m3c m4c m5c m6c
            go_upto_region 20 with (fail)
            refine region_below (by kernel_rfl) (by kernel_rfl) hself7' ?_
            repeat (first
              | go_big_quiet_skip
              | (go_big_quiet_want; go_big_quiet_op; go_big_quiet_on)
              | (go_big_quiet_want
                 apply Exists.intro
                 refine ⟨fun w9 hw9 => ?_, ?_⟩
                 · go_simp
                   first
                     | with_reducible exact ret_classv (cA2.out _ hw9) hw9
                     | with_reducible exact ret_classv (cA1.out _ hw9) hw9
                     | rfl
                 go_simp
                 go_big_quiet_on))
            refine wpQuiet_nil ?_
            intro w9 hw9
            have hfin := hide (hZW.out _ (hZ7.out _ hw9))
            go_wp2
            go_roundw
            case rel => exact ⟨i + 1, by go_num, hlt, hfin.out⟩
            case measure => simp [intOf]; omega
      · obtain rfl : i = v3 := by omega
        have hfin := hide (hwX.out _ hbel)
        go_wp2
        go_ret
        exact ⟨rfl, hfin.out⟩
end Go.Proofs.Ytamjcafjdioidaa
