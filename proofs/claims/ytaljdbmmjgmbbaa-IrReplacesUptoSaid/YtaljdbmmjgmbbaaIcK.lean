/- latheref02.Replace. No condition but sizes. -/
import Derived.Test.YtaljdbmmjgmbbaaIcF
import Derived.Test.YtaljdbmmjgmbbaaCr
import Derived.Test.YtaljdbmmjgmbbaaOf
namespace Go.Proofs.Ytaljdbmmjgmbbaa
open Go.RowKit
set_option linter.unusedSimpArgs false
set_option linter.unusedVariables false

theorem argB_type {w : World} {L : Nat} {d : Value} {bs : List (List Ins)} {xs : List Value} {ess : List (List (Value × Value))} (hK : OwnKd w L d bs xs ess) {q : Nat} (h : ArgB ess q) : L ≤ q ∧ q < w.heap.size ∧ ∃ c, w.heap[q]? = some (.cells c 28 (0, 0)) := by
  obtain ⟨e, hef, hq⟩ := h
  obtain ⟨fs, hfs, hef⟩ := List.mem_flatten.1 hef
  obtain ⟨p, hp⟩ := List.getElem?_of_mem hfs
  have hpl := (List.getElem?_eq_some_iff.1 hp).1
  obtain ⟨q, hq'⟩ := List.getElem?_of_mem hef
  have hxp : xs[p]? = some (xs[p]'(by rw [hK.lenx, ← hK.lene]; exact hpl)) := List.getElem?_eq_getElem _
  obtain ⟨b', es', hb', hes', hcd⟩ := hK.code_at hxp
  rw [hp] at hes'
  cases hes'
  have hql := (List.getElem?_eq_some_iff.1 hq').1
  rw [hcd.len] at hql
  obtain ⟨h1, -, -⟩ := hcd.inn q _ e (List.getElem?_eq_getElem hql) hq'
  exact row_lt h1.row hq
theorem argB_not {w : World} {L : Nat} {d : Value} {bs : List (List Ins)} {xs : List Value} {ess : List (List (Value × Value))} (hK : OwnKd w L d bs xs ess) {g B n size : Nat} {T : TypeId} {u : Value} {us : List Value} (hr : w.ownsRow B T size u n us) (hu : u.ownBlock = some g) (hT : T ≠ 28) : ¬ ArgB ess g := fun h => by
  obtain ⟨-, -, c, h1⟩ := argB_type hK h
  obtain ⟨-, -, c', h2⟩ := row_lt hr hu
  rw [h1] at h2
  injection h2 with h2
  injection h2 with _ h3
  exact hT h3.symm
set_option maxRecDepth 100000 in
set_option maxHeartbeats 12800000 in
theorem rreplace_any (f : Fun) (reg : Int) (v : Opd) (hv64 : I64 v.kind ∧ I64 v.num) (c1 c2 : Value) (w : World) (B : Nat) (hB : B ≤ w.heap.size) (hf : RFun.rep w B [.string f.name, c1, .int .i64 f.ret, c2] f) (hs : Small f) :
    Calls Try.prog 25 #[f.v c1 c2, .int .i64 reg, .agg #[.int .i64 v.kind, .int .i64 v.num, .int .u64 v.bits]] w (TreePost f (subAll (rsub reg v) f.blocks) w) := by
  obtain ⟨hp, hb⟩ := fun_open (RFun.later hf (Below.refl _ _) hB)
  obtain ⟨A1, k1, h1, -, -⟩ := Rp.slice1_open hp
  obtain ⟨A2, k2, h2, hm2, -⟩ := Rp.slice1_open hb
  cases h1; cases h2
  clear hp hb
  obtain ⟨n, hn⟩ : ∃ n, Hid (n = f.blocks.length) := ⟨_, hide rfl⟩
  obtain ⟨np, hnp⟩ : ∃ n, Hid (n = f.params.length) := ⟨_, hide rfl⟩
  have hnle : n ≤ 2000000 := by rw [hn.out]; exact hs.blocks
  rw [← hn.out, ← hnp.out] at hf
  rw [← hn.out] at hm2
  rw [← hn.out, ← hnp.out]
  obtain ⟨W3, hW3, hwW3, hW3s, hx1, hx2⟩ := boxes2 w #[.string f.name, .slice A1 np k1, .int .i64 f.ret, .slice A2 n k2] #[.int .i64 v.kind, .int .i64 v.num, .int .u64 v.bits] 25 28
  obtain ⟨W, hW⟩ : ∃ W, W3.alloc (.cells #[.string ⟨#[]⟩, .slice none 0 0, .int .i64 0, .slice none 0 0] 25) = W := ⟨_, rfl⟩
  have hR0 : W.heap[W3.heap.size]? = some (.cells #[.string ⟨#[]⟩, .slice none 0 0, .int .i64 0, .slice none 0 0] 25 (0, 0)) := by rw [← hW]; exact box_top _ _
  have hb3 : Below W3.heap.size W3 W := by rw [← hW]; exact (Below.refl _ _).alloc (Nat.le_refl _) _
  have hWs : W.heap.size = w.heap.size + 3 := by rw [← hW]; simp; omega
  obtain ⟨N4, hN4⟩ : ∃ N4, N4 = W3.heap.size := ⟨_, rfl⟩
  rw [← hN4] at hR0
  have h4a : w.heap.size < N4 := by omega
  have h4b : N4 < W.heap.size := by omega
  have hwW : Below w.heap.size w W := hwW3.trans (hb3.mono (by omega))
  have q0 : W.cell? ⟨w.heap.size, 0, none⟩ = some (.string f.name) := hx1 0 _ rfl W hb3
  have q1 : W.cell? ⟨w.heap.size, 1, none⟩ = some (.slice A1 np k1) := hx1 1 _ rfl W hb3
  have q2 : W.cell? ⟨w.heap.size, 2, none⟩ = some (.int .i64 f.ret) := hx1 2 _ rfl W hb3
  have q3 : W.cell? ⟨w.heap.size, 3, none⟩ = some (.slice A2 n k2) := hx1 3 _ rfl W hb3
  have hv0 : W.cell? ⟨w.heap.size + 1, 0, none⟩ = some (.int .i64 v.kind) := hx2 0 _ rfl W hb3
  have hv1 : W.cell? ⟨w.heap.size + 1, 1, none⟩ = some (.int .i64 v.num) := hx2 1 _ rfl W hb3
  have hv2 : W.cell? ⟨w.heap.size + 1, 2, none⟩ = some (.int .u64 v.bits) := hx2 2 _ rfl W hb3
  have cC := hide (rcopytree_any f (.slice A1 np k1) (.slice A2 n k2) W B (by omega) (RFun.later hf (hwW.mono hB) (Nat.le_refl _)) hs)
  replace hN4 := hide hN4
  replace hR0 := hide hR0
  replace hv0 := hide hv0
  replace hv1 := hide hv1
  replace hv2 := hide hv2
  replace hs := hide hs
  replace hf := hide hf
  replace hwW := hide hwW
  replace hWs := hide hWs
  replace hW3s := hide hW3s
  clear hx1 hx2 hwW3 hb3
  go_enter Try.func25, Try.ntmps25
  go_wp2_with (fail)
  rw [← hN4.out]
  refine cC.out.mono ?_
  rintro e V ⟨c, d, L, rfl, hOI, hPL, hOK, hL0, hbV⟩
  obtain ⟨Am, Cm, hcm⟩ := row_form hOI.row
  subst hcm
  obtain ⟨Ad, Cd, hdm⟩ := hOK.form
  subst hdm
  rw [← hnp.out] at hOI hPL ⊢
  rw [← hn.out] at hOK ⊢
  obtain ⟨xs, ess, hK⟩ := hOK
  have hWso := hWs.out
  have hVs := hbV.size
  obtain ⟨X, hX, hwX, hXs, hxc⟩ := boxes1 V #[.string f.name, .slice Am np Cm, .int .i64 f.ret, .slice Ad n Cd] 25
  have hKX := hK.kept (w' := X) fun k h1 h2 => hwX.block k h2
  have hOIX := hide (hOI.kept (w' := X) fun k h1 h2 => hwX.block k h2)
  have hSL : ∀ q, ArgB ess q → L ≤ q ∧ q < V.heap.size := fun q h => by
    obtain ⟨h1, h2, -⟩ := argB_type hK h
    exact ⟨h1, h2⟩
  have old : ∀ (N j : Nat) (u : Value), N < W.heap.size → W.cell? ⟨N, j, none⟩ = some u → ∀ w', Only (ArgB ess) X.heap.size X w' → w'.cell? ⟨N, j, none⟩ = some u := fun N j u hN hu => Only.fact (((hwX.cell (p := ⟨N, j, none⟩) (by show N < _; omega)).trans (hbV.cell (p := ⟨N, j, none⟩) hN)).trans hu) (by omega) fun h => by have := (hSL N h).1; omega
  have hNf : ¬ ArgB ess V.heap.size := fun h => by have := (hSL _ h).2; omega
  have zV0 := old _ 0 _ (by omega) hv0.out
  have zV1 := old _ 1 _ (by omega) hv1.out
  have zV2 := old _ 2 _ (by omega) hv2.out
  have z0 : ∀ w', Only (ArgB ess) X.heap.size X w' → w'.cell? ⟨V.heap.size, 0, none⟩ = some (.string f.name) := Only.fact (hxc 0 _ rfl X (Below.refl _ _)) (by omega) hNf
  have z1 : ∀ w', Only (ArgB ess) X.heap.size X w' → w'.cell? ⟨V.heap.size, 1, none⟩ = some (.slice Am np Cm) := Only.fact (hxc 1 _ rfl X (Below.refl _ _)) (by omega) hNf
  have z2 : ∀ w', Only (ArgB ess) X.heap.size X w' → w'.cell? ⟨V.heap.size, 2, none⟩ = some (.int .i64 f.ret) := Only.fact (hxc 2 _ rfl X (Below.refl _ _)) (by omega) hNf
  have z3 : ∀ w', Only (ArgB ess) X.heap.size X w' → w'.cell? ⟨V.heap.size, 3, none⟩ = some (.slice Ad n Cd) := Only.fact (hxc 3 _ rfl X (Below.refl _ _)) (by omega) hNf
  have hR3 : X.heap[N4]? = some (.cells #[.string ⟨#[]⟩, .slice none 0 0, .int .i64 0, .slice none 0 0] 25 (0, 0)) := ((hwX.block N4 (by omega)).trans (hbV.block N4 (by omega))).trans hR0.out
  have hN4no : ¬ ArgB ess N4 := fun h => by have := (hSL _ h).1; omega
  have hwX9 : Below w.heap.size w X := (hwW.out.trans (hbV.mono (by omega))).trans (hwX.mono (by omega))
  have hlx : xs.length = n := by rw [hK.lenx, hn.out]
  have hle : ess.length = n := by rw [hK.lene, hn.out]
  have hK0 : Hid (OwnKd X L (.slice Ad n Cd) (progA (rsub reg v) 0 0 0 f.blocks) xs ess) := hide (by rw [progA_start]; exact hKX)
  have hself := Only.refl (ArgB ess) X.heap.size X
  have hX9 : V.heap.size < X.heap.size := by omega
  replace hR3 := hide hR3
  replace hN4no := hide hN4no
  replace hSL := hide hSL
  replace hKX := hide hKX
  replace hwX9 := hide hwX9
  replace hPL := hide hPL
  replace hL0 := hide hL0
  replace hNf := hide hNf
  replace hXs := hide hXs
  replace hwX := hide hwX
  replace hbV := hide hbV
  have hv64h := hide hv64
  clear hOI hK old hxc hv64 q0 q1 q2 q3
  go_upto_region 2 with (fail)
  try rw [hX]
  clear hX
  go_wp2
  go_loopw [8] (fun u wr => ∃ i : Nat, u = .int .i64 i ∧ i ≤ n ∧ Hid (OwnKd wr L (.slice Ad n Cd) (progA (rsub reg v) i 0 0 f.blocks) xs ess) ∧ Only (ArgB ess) X.heap.size X wr) (fun u _ => n - (intOf u).toNat)
  case atStart => exact ⟨0, rfl, Nat.zero_le _, hK0, hself⟩
  case round =>
    clear hK0 hself
    obtain ⟨i, rfl, hi, hK, hon⟩ := hrel
    by_cases hlt : i < n
    · have hii : (i : Int) < (n : Int) := by omega
      obtain ⟨c, hc⟩ := get_ex (l := f.blocks) (k := i) (by rw [← hn.out]; exact hlt)
      obtain ⟨xi, hxi⟩ := get_ex (l := xs) (k := i) (by omega)
      obtain ⟨es, hes⟩ := get_ex (l := ess) (k := i) (by omega)
      obtain ⟨gB, CB, hAd, -, -⟩ := hKX.out.row.form (by rw [← hn.out]; omega)
      have hAd' : Ad = some ⟨gB, 0, none⟩ := by cases hAd; rfl
      subst hAd'
      clear hAd CB
      obtain ⟨nc, hnc⟩ : ∃ nc, Hid (nc = c.length) := ⟨_, hide rfl⟩
      have hszc := hs.out.code c (List.mem_of_getElem? hc.out)
      have hnc8 : nc ≤ 2000000 := by rw [hnc.out]; exact hszc.1
      have hszi := hide hszc.2
      have hCd0 := hKX.out.inn i xi _ es hxi.out hc.out hes.out
      obtain ⟨Ac, Cc, hxf⟩ := row_form hCd0.row
      rw [← hnc.out] at hxf
      subst hxf
      have hrow0 := hKX.out.row
      rw [← hn.out] at hrow0
      have hgBn : ¬ ArgB ess gB := argB_not hKX.out hrow0 rfl (by decide)
      have yB : ∀ w', Only (ArgB ess) X.heap.size X w' → w'.cell? ⟨gB, i, none⟩ = some (.slice Ac nc Cc) := Only.fact (by rw [World.ownsRow.cellAt hrow0 i (by omega)]; exact hxi.out) (row_lt hrow0 rfl).2.1 hgBn
      have hCdh := hide hCd0
      clear hszc hCd0 hrow0 hgBn
      go_wp2
      go_loopw [9] (fun u wr => ∃ k : Nat, u = .int .i64 k ∧ k ≤ nc ∧ Hid (OwnKd wr L (.slice (some ⟨gB, 0, none⟩) n Cd) (progA (rsub reg v) i k 0 f.blocks) xs ess) ∧ Only (ArgB ess) X.heap.size X wr) (fun u _ => nc - (intOf u).toNat)
      case atStart => exact ⟨0, rfl, Nat.zero_le _, hK, hon⟩
      case round =>
        clear hK hon
        obtain ⟨k, rfl, hk, hK, hon⟩ := hrel
        by_cases hlt2 : k < nc
        · have hki : (k : Int) < (nc : Int) := by omega
          obtain ⟨x, hx⟩ := get_ex (l := c) (k := k) (by rw [← hnc.out]; exact hlt2)
          obtain ⟨⟨cv, dv⟩, he⟩ := get_ex (l := es) (k := k) (by rw [hCdh.out.len, ← hnc.out]; exact hlt2)
          obtain ⟨har0, -, -⟩ := hCdh.out.inn k _ _ hx.out he.out
          obtain ⟨Aa, Ca, hcv⟩ := row_form har0.row
          obtain ⟨na, hna⟩ : ∃ na, Hid (na = x.args.length) := ⟨_, hide rfl⟩
          rw [← hna.out] at hcv
          subst hcv
          obtain ⟨gc, CC, hAc, -, -⟩ := hCdh.out.row.form (by rw [← hnc.out]; omega)
          have hAc' : Ac = some ⟨gc, 0, none⟩ := by cases hAc; rfl
          subst hAc'
          clear hAc CC
          have hrow1 := hCdh.out.row
          rw [← hnc.out] at hrow1
          have hgcn : ¬ ArgB ess gc := argB_not hKX.out hrow1 rfl (by decide)
          have yC : ∀ w', Only (ArgB ess) X.heap.size X w' → w'.cell? ⟨gc, k * 7 + 5, none⟩ = some (.slice Aa na Ca) := Only.fact (by rw [World.ownsRow.cellAt hrow1 (k * 7 + 5) (by omega)]; exact cellsOf_at hx.out he.out rfl) (row_lt hrow1 rfl).2.1 hgcn
          have hna8 : na ≤ 2000000 := by rw [hna.out]; exact (hszi.out x (List.mem_of_getElem? hx.out)).1
          clear har0 hrow1 hgcn
          go_wp2
          go_loopw [11] (fun u wr => ∃ j : Nat, u = .int .i64 j ∧ j ≤ na ∧ Hid (OwnKd wr L (.slice (some ⟨gB, 0, none⟩) n Cd) (progA (rsub reg v) i k j f.blocks) xs ess) ∧ Only (ArgB ess) X.heap.size X wr) (fun u _ => na - (intOf u).toNat)
          case atStart => exact ⟨0, rfl, Nat.zero_le _, hK, hon⟩
          case round =>
            clear hK hon
            obtain ⟨j, rfl, hj, hK, hon⟩ := hrel
            by_cases hlt3 : j < na
            · obtain ⟨t, ht⟩ := get_ex (l := x.args) (k := j) (by rw [← hna.out]; exact hlt3)
              have hji : (j : Int) < (na : Int) := by omega
              have hCd := hK.out.inn i _ _ es hxi.out (progA_at hc.out) hes.out
              obtain ⟨har, -, -⟩ := hCd.inn k _ _ (progCodeA_at hx.out) he.out
              have hal : (progInsA (rsub reg v) i k j i k x).args.length = x.args.length := progAr_len
              obtain ⟨gA, CA, hAa, -, -⟩ := har.row.form (by rw [hal, ← hna.out]; omega)
              have hAa' : Aa = some ⟨gA, 0, none⟩ := by cases hAa; rfl
              subst hAa'
              clear hAa CA
              have htv : (progInsA (rsub reg v) i k j i k x).args[j]? = some t := by
                show (progAr (rsub reg v) i k j i k x.args)[j]? = _
                rw [progAr_at ht.out, if_neg (by unfold DoneA; omega)]
              have hrow := har.row
              rw [hal, ← hna.out] at hrow
              have hcell : ∀ (r : Nat) u, (oc t)[r]? = some u → r < 3 → wr.cell? ⟨gA, j * 3 + r, none⟩ = some u := fun r u hu hr => by
                rw [World.ownsRow.cellAt hrow (j * 3 + r) (by omega), oc_get, show (j * 3 + r) / 3 = j by omega, show (j * 3 + r) % 3 = r by omega, htv]
                exact hu
              have r0 : wr.cell? ⟨gA, j * 3, none⟩ = some (.int .i64 t.kind) := hcell 0 _ rfl (by omega)
              have r1 : wr.cell? ⟨gA, j * 3 + 1, none⟩ = some (.int .i64 t.num) := hcell 1 _ rfl (by omega)
              have r2 : wr.cell? ⟨gA, j * 3 + 2, none⟩ = some (.int .u64 t.bits) := hcell 2 _ rfl (by omega)
              have f0 : wr.frozen? ⟨gA, j * 3, none⟩ = false := World.ownsRow.frozenAt hrow _
              have f1 : wr.frozen? ⟨gA, j * 3 + 1, none⟩ = false := World.ownsRow.frozenAt hrow _
              have f2 : wr.frozen? ⟨gA, j * 3 + 2, none⟩ = false := World.ownsRow.frozenAt hrow _
              have hS : ArgB ess gA := ⟨(.slice (some ⟨gA, 0, none⟩) na Ca, dv), List.mem_flatten.2 ⟨es, List.mem_of_getElem? hes.out, List.mem_of_getElem? he.out⟩, rfl⟩
              have hput := hide (hK.out.put_arg (j := j) (z := v) (progA_at hc.out) hes.out (progCodeA_at hx.out) he.out (by rw [hal, ← hna.out]; exact hlt3) hv64h.out)
              have hon9 : Hid (Only (ArgB ess) X.heap.size X (put3 wr gA (j * 3) v)) := hide (((hon.setCell (p := ⟨gA, j * 3, none⟩) (.inl hS) _).setCell (p := ⟨gA, j * 3 + 1, none⟩) (.inl hS) _).setCell (p := ⟨gA, j * 3 + 2, none⟩) (.inl hS) _)
              replace hrow := hide hrow
              replace hS := hide hS
              clear hCd har hcell htv hal
              by_cases hcase : t.kind = 1 ∧ t.num = reg
              · have e1 : (t.kind == 1) = true := by rw [beq_iff_eq]; exact hcase.1
                have e2 : (t.num == reg) = true := by rw [beq_iff_eq]; exact hcase.2
                have hst : Hid (rsub reg v t = v) := hide (by unfold rsub; rw [if_pos hcase])
                have hnext := hput.out
                have hstep := progA_step (σ := rsub reg v) hc.out hx.out ht.out
                rw [hst.out] at hstep
                rw [hstep] at hnext
                clear hstep
                replace hnext := hide hnext
                clear hput hK
                replace hcase := hide hcase
                go_wp2
                go_roundw
                case rel => exact ⟨j + 1, by go_num, hlt3, hide (hnext.out.kept fun _ _ _ => rfl), (by first | exact hon9.out | exact hon9.out.drew)⟩
                case measure => simp [intOf]; omega
              · have hst : Hid (rsub reg v t = t) := hide (by unfold rsub; rw [if_neg hcase])
                have hnext := hK.out
                rw [← progA_id hc.out hx.out ht.out hst.out] at hnext
                replace hnext := hide hnext
                clear hput hon9 hK
                by_cases hk1 : t.kind = 1
                · have e1 : (t.kind == 1) = true := by rw [beq_iff_eq]; exact hk1
                  have e2 : (t.num == reg) = false := by rw [beq_eq_false_iff_ne]; exact fun h => hcase ⟨hk1, h⟩
                  clear hcase hk1
                  go_wp2
                  go_roundw
                  case rel => exact ⟨j + 1, by go_num, hlt3, hnext, hon⟩
                  case measure => simp [intOf]; omega
                · have e1 : (t.kind == 1) = false := by rw [beq_eq_false_iff_ne]; exact hk1
                  clear hcase hk1
                  go_wp2
                  go_roundw
                  case rel => exact ⟨j + 1, by go_num, hlt3, hnext, hon⟩
                  case measure => simp [intOf]; omega
            · obtain rfl : j = na := by omega
              have hnext := hK.out
              rw [hna.out, progA_next_ins hc.out hx.out] at hnext
              replace hnext := hide hnext
              go_wp2
              go_roundw
              case rel => exact ⟨k + 1, by go_num, hlt2, hnext, hon⟩
              case measure => simp [intOf]; omega
        · obtain rfl : k = nc := by omega
          have hnext : Hid (OwnKd wr L (.slice (some ⟨gB, 0, none⟩) n Cd) (progA (rsub reg v) (i + 1) 0 0 f.blocks) xs ess) := hide (by rw [← progA_next_block hc.out, ← hnc.out]; exact hK.out)
          go_wp2
          go_roundw
          case rel => exact ⟨i + 1, by go_num, hlt, hnext, hon⟩
          case measure => simp [intOf]; omega
    · obtain rfl : i = n := by omega
      have hE : progA (rsub reg v) i 0 0 f.blocks = subAll (rsub reg v) f.blocks := by rw [hn.out]; exact progA_end
      rw [hE] at hK
      have hR4 := (hon.block N4 (by omega) hN4no.out).trans hR3.out
      obtain ⟨p0, p1, p2, p3⟩ := box4 hR4
      have g0 := one_free (j := 0) hR4
      have g1 := one_free (j := 1) hR4
      have g2 := one_free (j := 2) hR4
      have g3 := one_free (j := 3) hR4
      have hWso := hWs.out
      have hLo := hL0.out
      have hOIZ := hide (show OwnI wr W.heap.size (.slice Am np Cm) f.params from ⟨row_kept hOIX.out.row fun k hk => hon.block k (row_lt hOIX.out.row hk).2.1 (fun h => by have h1 := hPL.out k hk; have h2 := (hSL.out k h).1; omega), hOIX.out.ok⟩)
      have hwZ := hide (hwX9.out.trans (hon.to_below (B' := w.heap.size) (fun k hk => by have := (hSL.out k hk).1; omega) hwX9.out.size))
      replace hR4 := hide hR4
      have hKh := hide hK.out
      clear hE hK
      go_wp2
      have hkeep : ∀ (v0 v1 v2 v3 : Value) (k : Nat), W.heap.size ≤ k → ((((wr.setCell ⟨N4, 0, none⟩ v0).setCell ⟨N4, 1, none⟩ v1).setCell ⟨N4, 2, none⟩ v2).setCell ⟨N4, 3, none⟩ v3).heap[k]? = wr.heap[k]? := fun v0 v1 v2 v3 k hk => by
        have hne : k ≠ N4 := by omega
        rw [Below.heap_setCell _ _ _ _ hne, Below.heap_setCell _ _ _ _ hne, Below.heap_setCell _ _ _ _ hne, Below.heap_setCell _ _ _ _ hne]
      refine bodyPost_ret (v := f.v (.slice Am np Cm) (.slice Ad i Cd)) (by simp [results, Try.results25, go_sem, p0, p1, p2, p3, g0, g1, g2, g3]) rfl ⟨_, _, L, rfl, (hOIZ.out.kept fun k h1 _ => hkeep _ _ _ _ k h1).mono (by omega), fun k hk => hPL.out k hk, ⟨xs, ess, hKh.out.kept fun k h1 _ => hkeep _ _ _ _ k (by omega)⟩, by omega, ?_⟩
      exact (((hwZ.out.setCell (p := ⟨N4, 0, none⟩) (by show w.heap.size ≤ N4; omega) _).setCell (p := ⟨N4, 1, none⟩) (by show w.heap.size ≤ N4; omega) _).setCell (p := ⟨N4, 2, none⟩) (by show w.heap.size ≤ N4; omega) _).setCell (p := ⟨N4, 3, none⟩) (by show w.heap.size ≤ N4; omega) _
end Go.Proofs.Ytaljdbmmjgmbbaa
