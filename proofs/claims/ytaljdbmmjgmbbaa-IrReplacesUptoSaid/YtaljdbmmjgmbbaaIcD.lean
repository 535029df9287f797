/- ir.Replace's closure. No condition but sizes. -/
import Derived.Test.YtaljdbmmjgmbbaaHm
import Derived.Test.YtaljdbmmjgmbbaaIcC
import Derived.RegionTactic
namespace Go.Proofs.Ytaljdbmmjgmbbaa
open Go.RowKit
set_option linter.unusedSimpArgs false
set_option linter.unusedVariables false

/-- every use of a register is another operand -/
def rsub (reg : Int) (v : Opd) (a : Opd) : Opd := if a.kind = 1 ∧ a.num = reg then v else a
/-- the blocks in which the operands of this function lie -/
def ArgB (ess : List (List (Value × Value))) (k : Nat) : Prop := ∃ e, e ∈ ess.flatten ∧ e.1.ownBlock = some k
theorem set_same {α : Type} {l : List α} {j : Nat} {t : α} (h : l[j]? = some t) : l.set j t = l := by
  refine List.ext_getElem? fun r => ?_
  by_cases e : j = r
  · subst e; rw [List.getElem?_set_self (List.getElem?_eq_some_iff.1 h).1, h]
  · rw [List.getElem?_set_ne e]
theorem progA_id {σ : Opd → Opd} {i k j : Nat} {bs : List (List Ins)} {c : List Ins} {x : Ins} {t : Opd} (hp : bs[i]? = some c) (hq : c[k]? = some x) (hr : x.args[j]? = some t) (ht : σ t = t) : progA σ i k (j + 1) bs = progA σ i k j bs := by
  have hv : (progInsA σ i k j i k x).args[j]? = some t := by
    show (progAr σ i k j i k x.args)[j]? = _
    rw [progAr_at hr, if_neg (by unfold DoneA; omega)]
  rw [← progA_step hp hq hr, ht, set_same hv, show setArgs (progInsA σ i k j i k x) (progInsA σ i k j i k x).args = progInsA σ i k j i k x from rfl, set_same (progCodeA_at hq), set_same (progA_at hp)]
def ReplPost (σ : Opd → Opd) (i k L : Nat) (d : Value) (bs : List (List Ins)) (xs : List Value) (ess : List (List (Value × Value))) (w : World) (e : Ending) (w' : World) : Prop :=
  e = .returned (.bool true) ∧ OwnKd w' L d (progA σ i (k + 1) 0 bs) xs ess ∧ Only (ArgB ess) w.heap.size w w'
set_option maxRecDepth 100000 in
set_option maxHeartbeats 6400000 in
theorem repl_any (reg : Int) (v : Opd) (hv64 : I64 v.kind ∧ I64 v.num) (i k L NR NV gc nc Cc : Nat) (d : Value) (bs : List (List Ins)) (xs : List Value) (ess : List (List (Value × Value))) (c : List Ins) (x : Ins) (es : List (Value × Value)) (w : World)
    (hK : OwnKd w L d (progA (rsub reg v) i k 0 bs) xs ess) (hc : bs[i]? = some c) (hx : c[k]? = some x) (hes : ess[i]? = some es) (hxi : xs[i]? = some (.slice (some ⟨gc, 0, none⟩) nc Cc)) (hxa : x.args.length ≤ 2000000)
    (hNR : NR < L) (hNV : NV < L) (hNRw : NR < w.heap.size) (hNVw : NV < w.heap.size) (hR : w.cell? ⟨NR, 0, none⟩ = some (.int .i64 reg)) (hV0 : w.cell? ⟨NV, 0, none⟩ = some (.int .i64 v.kind)) (hV1 : w.cell? ⟨NV, 1, none⟩ = some (.int .i64 v.num)) (hV2 : w.cell? ⟨NV, 2, none⟩ = some (.int .u64 v.bits)) :
    Calls Try.prog 62 #[.agg #[.int .i64 0, .int .i64 i, .int .i64 k], .pointer (some ⟨gc, k * 7, none⟩), .pointer (some ⟨NR, 0, none⟩), .pointer (some ⟨NV, 0, none⟩)] w (ReplPost (rsub reg v) i k L d bs xs ess w) := by
  have hCd := hK.inn i _ _ es hxi (progA_at hc) hes
  have hkl : k < es.length := by rw [hCd.len, progCodeA_len]; exact (List.getElem?_eq_some_iff.1 hx).1
  obtain ⟨⟨cv, dv⟩, he⟩ := get_ex hkl
  obtain ⟨har, -, -⟩ := hCd.inn k _ _ (progCodeA_at hx) he.out
  obtain ⟨Aa, Ca, hcv⟩ := row_form har.row
  obtain ⟨na, hna⟩ : ∃ na, Hid (na = x.args.length) := ⟨_, hide rfl⟩
  have hcv' : cv = .slice Aa na Ca := by
    have e : (progInsA (rsub reg v) i k 0 i k x).args.length = x.args.length := progAr_len
    rw [e, ← hna.out] at hcv
    exact hcv
  subst hcv'
  have hSL : ∀ q, ArgB ess q → L ≤ q ∧ q < w.heap.size := fun q ⟨e, he, hq⟩ => (hK.own_at he q).1 hq
  have hgc := row_lt hCd.row (k := gc) rfl
  have hSg : ¬ ArgB ess gc := fun ⟨e, hef, hq⟩ => by
    obtain ⟨fs, hfs, hef⟩ := List.mem_flatten.1 hef
    obtain ⟨p, hp⟩ := List.getElem?_of_mem hfs
    have hpl := (List.getElem?_eq_some_iff.1 hp).1
    obtain ⟨q, hq'⟩ := List.getElem?_of_mem hef
    have hxp : xs[p]? = some (xs[p]'(by rw [hK.lenx, ← hK.lene]; exact hpl)) := List.getElem?_eq_getElem _
    obtain ⟨b', es', hb', hes', hcd⟩ := hK.code_at hxp
    rw [hp] at hes'
    cases hes'
    have hql := (List.getElem?_eq_some_iff.1 hq').1
    rw [hcd.len] at hql
    obtain ⟨h1, -, -⟩ := hcd.inn q _ e (List.getElem?_eq_getElem hql) hq'
    obtain ⟨-, -, c1, h2⟩ := row_lt h1.row hq
    obtain ⟨-, -, c2, h3⟩ := hgc
    rw [h2] at h3
    injection h3 with h3
    injection h3 with _ h4
    exact absurd h4 (by decide)
  have hrow1 := hCd.row
  have r5 : w.cell? ⟨gc, k * 7 + 5, none⟩ = some (.slice Aa na Ca) := by
    have hkc := (List.getElem?_eq_some_iff.1 hx).1
    have hl : (progCodeA (rsub reg v) i k 0 i c).length = nc := by
      obtain ⟨A, C, e⟩ := row_form hCd.row
      cases e; rfl
    rw [hl] at hrow1
    have hl2 : c.length = nc := by rw [← hl]; exact progCodeA_len.symm
    rw [World.ownsRow.cellAt hrow1 (k * 7 + 5) (by omega)]
    exact cellsOf_at (progCodeA_at hx) he.out rfl
  obtain ⟨W, hW, hwW, hWs, -⟩ := boxes1 w #[.int .i64 0, .int .i64 i, .int .i64 k] 58
  have hon0 : Only (ArgB ess) w.heap.size w W := Only.of_below hwW
  have up : ∀ w', Only (ArgB ess) W.heap.size W w' → Only (ArgB ess) w.heap.size w w' := fun w' h => hon0.trans (h.mono hwW.size)
  have z5 : ∀ w', Only (ArgB ess) W.heap.size W w' → w'.cell? ⟨gc, k * 7 + 5, none⟩ = some (.slice Aa na Ca) := fun w' h => ((up w' h).cell (p := ⟨gc, k * 7 + 5, none⟩) hgc.2.1 hSg).trans r5
  have zR : ∀ w', Only (ArgB ess) W.heap.size W w' → w'.cell? ⟨NR, 0, none⟩ = some (.int .i64 reg) := fun w' h => ((up w' h).cell (p := ⟨NR, 0, none⟩) (by show NR < _; omega) (fun e => by have : L ≤ NR := (hSL _ e).1; omega)).trans hR
  have zV0 : ∀ w', Only (ArgB ess) W.heap.size W w' → w'.cell? ⟨NV, 0, none⟩ = some (.int .i64 v.kind) := fun w' h => ((up w' h).cell (p := ⟨NV, 0, none⟩) (by show NV < _; omega) (fun e => by have : L ≤ NV := (hSL _ e).1; omega)).trans hV0
  have zV1 : ∀ w', Only (ArgB ess) W.heap.size W w' → w'.cell? ⟨NV, 1, none⟩ = some (.int .i64 v.num) := fun w' h => ((up w' h).cell (p := ⟨NV, 1, none⟩) (by show NV < _; omega) (fun e => by have : L ≤ NV := (hSL _ e).1; omega)).trans hV1
  have zV2 : ∀ w', Only (ArgB ess) W.heap.size W w' → w'.cell? ⟨NV, 2, none⟩ = some (.int .u64 v.bits) := fun w' h => ((up w' h).cell (p := ⟨NV, 2, none⟩) (by show NV < _; omega) (fun e => by have : L ≤ NV := (hSL _ e).1; omega)).trans hV2
  have hKW := hide (hK.kept (w' := W) fun q _ hq => hwW.block q hq)
  have hself := Only.refl (ArgB ess) W.heap.size W
  have hna8 : na ≤ 2000000 := by rw [hna.out]; exact hxa
  have hwWh := hide hwW
  replace hWs := hide hWs
  replace hSL := hide hSL
  replace hc := hide hc
  replace hx := hide hx
  replace hes := hide hes
  replace hxi := hide hxi
  replace hv64 := hide hv64
  clear hK hCd hkl har hcv hgc hSg hrow1 r5 hon0 up hwW hR hV0 hV1 hV2 hxa
  go_enter Try.func62, Try.ntmps62
  go_wp2
  go_loopw [14] (fun u wr => ∃ j : Nat, u = .int .i64 j ∧ j ≤ na ∧ Hid (OwnKd wr L d (progA (rsub reg v) i k j bs) xs ess) ∧ Only (ArgB ess) W.heap.size W wr) (fun u _ => na - (intOf u).toNat)
  case atStart => exact ⟨0, rfl, Nat.zero_le _, hKW, hself⟩
  case round =>
    clear hKW hself
    obtain ⟨j, rfl, hj, hK, hon⟩ := hrel
    by_cases hlt : j < na
    · obtain ⟨t, ht⟩ := get_ex (l := x.args) (k := j) (by rw [← hna.out]; exact hlt)
      have hji : (j : Int) < (na : Int) := by omega
      have hCd := hK.out.inn i _ _ es hxi.out (progA_at hc.out) hes.out
      obtain ⟨har, -, -⟩ := hCd.inn k _ _ (progCodeA_at hx.out) he.out
      have hal : (progInsA (rsub reg v) i k j i k x).args.length = x.args.length := progAr_len
      obtain ⟨gA, CA, hAa, -, -⟩ := har.row.form (by rw [hal, ← hna.out]; omega)
      have hAa' : Aa = some ⟨gA, 0, none⟩ := by cases hAa; rfl
      subst hAa'
      clear hAa CA
      have htv : (progInsA (rsub reg v) i k j i k x).args[j]? = some t := by
        show (progAr (rsub reg v) i k j i k x.args)[j]? = _
        rw [progAr_at ht.out, if_neg (by unfold DoneA; omega)]
      have hrow := har.row
      rw [hal, ← hna.out] at hrow
      have hcell : ∀ (r : Nat) u, (oc t)[r]? = some u → r < 3 → wr.cell? ⟨gA, j * 3 + r, none⟩ = some u := fun r u hu hr => by
        rw [World.ownsRow.cellAt hrow (j * 3 + r) (by omega), oc_get, show (j * 3 + r) / 3 = j by omega, show (j * 3 + r) % 3 = r by omega, htv]
        exact hu
      have r0 : wr.cell? ⟨gA, j * 3, none⟩ = some (.int .i64 t.kind) := hcell 0 _ rfl (by omega)
      have r1 : wr.cell? ⟨gA, j * 3 + 1, none⟩ = some (.int .i64 t.num) := hcell 1 _ rfl (by omega)
      have r2 : wr.cell? ⟨gA, j * 3 + 2, none⟩ = some (.int .u64 t.bits) := hcell 2 _ rfl (by omega)
      have f0 : wr.frozen? ⟨gA, j * 3, none⟩ = false := World.ownsRow.frozenAt hrow _
      have f1 : wr.frozen? ⟨gA, j * 3 + 1, none⟩ = false := World.ownsRow.frozenAt hrow _
      have f2 : wr.frozen? ⟨gA, j * 3 + 2, none⟩ = false := World.ownsRow.frozenAt hrow _
      have hbs := hon.size
      go_upto_region 4 with (fail)
      obtain ⟨X, hX, hwX, hXs, hxc⟩ := boxes1 wr #[.int .i64 t.kind, .int .i64 t.num, .int .u64 t.bits] 28
      rw [hX]
      have x0 := hxc 0 _ rfl X (Below.refl _ _)
      have x1 := hxc 1 _ rfl X (Below.refl _ _)
      have x2 := hxc 2 _ rfl X (Below.refl _ _)
      have honX : Only (ArgB ess) W.heap.size W X := hon.then_below (Nat.le_refl _) hwX
      have hKX := hK.out.kept (w' := X) fun q _ hq => hwX.block q hq
      have hgA := (row_lt hrow (k := gA) rfl).2.1
      have s0 : X.cell? ⟨gA, j * 3, none⟩ = some (.int .i64 t.kind) := (hwX.cell (p := ⟨gA, j * 3, none⟩) hgA).trans r0
      have s1 : X.cell? ⟨gA, j * 3 + 1, none⟩ = some (.int .i64 t.num) := (hwX.cell (p := ⟨gA, j * 3 + 1, none⟩) hgA).trans r1
      have s2 : X.cell? ⟨gA, j * 3 + 2, none⟩ = some (.int .u64 t.bits) := (hwX.cell (p := ⟨gA, j * 3 + 2, none⟩) hgA).trans r2
      have g0 : X.frozen? ⟨gA, j * 3, none⟩ = false := (World.frozen?_of_block (a := ⟨gA, j * 3, none⟩) (hwX.block gA hgA)).trans f0
      have g1 : X.frozen? ⟨gA, j * 3 + 1, none⟩ = false := (World.frozen?_of_block (a := ⟨gA, j * 3 + 1, none⟩) (hwX.block gA hgA)).trans f1
      have g2 : X.frozen? ⟨gA, j * 3 + 2, none⟩ = false := (World.frozen?_of_block (a := ⟨gA, j * 3 + 2, none⟩) (hwX.block gA hgA)).trans f2
      have hS : ArgB ess gA := ⟨(.slice (some ⟨gA, 0, none⟩) na Ca, dv), List.mem_flatten.2 ⟨es, List.mem_of_getElem? hes.out, List.mem_of_getElem? he.out⟩, rfl⟩
      have hput := hKX.put_arg (j := j) (z := v) (progA_at hc.out) hes.out (progCodeA_at hx.out) he.out (by rw [hal, ← hna.out]; exact hlt) hv64.out
      have hon9 : Only (ArgB ess) W.heap.size W (put3 X gA (j * 3) v) := ((honX.setCell (p := ⟨gA, j * 3, none⟩) (.inl hS) _).setCell (p := ⟨gA, j * 3 + 1, none⟩) (.inl hS) _).setCell (p := ⟨gA, j * 3 + 2, none⟩) (.inl hS) _
      replace hput := hide hput
      replace hon9 := hide hon9
      replace hKX := hide hKX
      replace hrow := hide hrow
      replace hwX := hide hwX
      replace hXs := hide hXs
      replace hS := hide hS
      replace hgA := hide hgA
      clear hX hxc hCd har hcell r0 r1 r2 f0 f1 f2 hK hon hbs
      by_cases hcase : t.kind = 1 ∧ t.num = reg
      · have e1 : (t.kind == 1) = true := by rw [beq_iff_eq]; exact hcase.1
        have e2 : (t.num == reg) = true := by rw [beq_iff_eq]; exact hcase.2
        have hst : Hid (rsub reg v t = v) := hide (by unfold rsub; rw [if_pos hcase])
        have hnext := hput.out
        have hstep := progA_step (σ := rsub reg v) hc.out hx.out ht.out
        rw [hst.out] at hstep
        rw [hstep] at hnext
        clear hstep
        replace hnext := hide hnext
        clear hput
        replace hcase := hide hcase
        go_upto_region 5 with (fail)
        go_region
        go_wp2
        go_roundw
        case rel => exact ⟨j + 1, by go_num, hlt, hide (hnext.out.kept fun _ _ _ => rfl), hon9.out.drew⟩
        case measure => simp [intOf]; omega
      · have hst : Hid (rsub reg v t = t) := hide (by unfold rsub; rw [if_neg hcase])
        have hnext := hKX.out
        rw [← progA_id hc.out hx.out ht.out hst.out] at hnext
        replace hnext := hide hnext
        clear hput hon9
        by_cases hk1 : t.kind = 1
        · have e1 : (t.kind == 1) = true := by rw [beq_iff_eq]; exact hk1
          have e2 : (t.num == reg) = false := by rw [beq_eq_false_iff_ne]; exact fun h => hcase ⟨hk1, h⟩
          clear hcase hk1
          go_wp2
          go_roundw
          case rel => exact ⟨j + 1, by go_num, hlt, hnext, honX⟩
          case measure => simp [intOf]; omega
        · have e1 : (t.kind == 1) = false := by rw [beq_eq_false_iff_ne]; exact hk1
          clear hcase hk1
          go_wp2
          go_roundw
          case rel => exact ⟨j + 1, by go_num, hlt, hnext, honX⟩
          case measure => simp [intOf]; omega
    · obtain rfl : j = na := by omega
      have hnext := hK.out
      rw [hna.out, progA_next_ins hc.out hx.out] at hnext
      replace hnext := hide hnext
      go_wp2
      go_ret
      exact ⟨rfl, hnext.out, (Only.of_below hwWh.out).trans (hon.mono hwWh.out.size)⟩
end Go.Proofs.Ytaljdbmmjgmbbaa
