/- ir.Replace. No condition but sizes. -/
import Derived.Test.YtaljdbmmjgmbbaaIcB
import Derived.Test.YtaljdbmmjgmbbaaIcD
namespace Go.Proofs.Ytaljdbmmjgmbbaa
open Go.RowKit
set_option linter.unusedSimpArgs false
set_option linter.unusedVariables false

def EachPost (σ : Opd → Opd) (L : Nat) (d : Value) (bs : List (List Ins)) (xs : List Value) (ess : List (List (Value × Value))) (w : World) (e : Ending) (w' : World) : Prop :=
  e = .returned (.tuple #[]) ∧ OwnKd w' L d (subAll σ bs) xs ess ∧ Only (ArgB ess) w.heap.size w w'
set_option maxRecDepth 100000 in
set_option maxHeartbeats 6400000 in
theorem each_repl (nm : ByteArray) (ret : Int) (Am : Option Addr) (np Cm : Nat) (reg : Int) (v : Opd) (hv64 : I64 v.kind ∧ I64 v.num) (L NR NV : Nat) (Ad : Option Addr) (n Cd : Nat) (bs : List (List Ins)) (xs : List Value) (ess : List (List (Value × Value))) (w : World)
    (hn : n = bs.length) (hK : OwnKd w L (.slice Ad n Cd) bs xs ess) (hn8 : n ≤ 2000000) (hcode : ∀ x, x ∈ bs → x.length ≤ 2000000 ∧ ∀ i, i ∈ x → i.args.length ≤ 2000000 ∧ i.to.length ≤ 2000000)
    (hNR : NR < L) (hNV : NV < L) (hNRw : NR < w.heap.size) (hNVw : NV < w.heap.size) (hR : w.cell? ⟨NR, 0, none⟩ = some (.int .i64 reg)) (hV0 : w.cell? ⟨NV, 0, none⟩ = some (.int .i64 v.kind)) (hV1 : w.cell? ⟨NV, 1, none⟩ = some (.int .i64 v.num)) (hV2 : w.cell? ⟨NV, 2, none⟩ = some (.int .u64 v.bits)) :
    Calls Try.prog 61 #[.agg #[.string nm, .slice Am np Cm, .int .i64 ret, .slice Ad n Cd], .func (.func 62) #[] #[.pointer (some ⟨NR, 0, none⟩), .pointer (some ⟨NV, 0, none⟩)]] w (EachPost (rsub reg v) L (.slice Ad n Cd) bs xs ess w) := by
  have hSL : Hid (∀ q, ArgB ess q → L ≤ q ∧ q < w.heap.size) := hide (fun q ⟨e, he, hq⟩ => (hK.own_at he q).1 hq)
  obtain ⟨W, hW, hwW, hWs, hx⟩ := boxes1 w #[.string nm, .slice Am np Cm, .int .i64 ret, .slice Ad n Cd] 25
  have hon0 : Only (ArgB ess) w.heap.size w W := Only.of_below hwW
  have hNf : ¬ ArgB ess w.heap.size := fun h => by have := (hSL.out _ h).2; omega
  have z3 : ∀ w', Only (ArgB ess) W.heap.size W w' → w'.cell? ⟨w.heap.size, 3, none⟩ = some (.slice Ad n Cd) := fun w' h => (h.cell (p := ⟨w.heap.size, 3, none⟩) (by show w.heap.size < _; omega) hNf).trans (hx 3 _ rfl W (Below.refl _ _))
  have hbox : ∀ (N : Nat) (j : Nat) (u : Value), N < L → N < w.heap.size → w.cell? ⟨N, j, none⟩ = some u → ∀ w', Only (ArgB ess) W.heap.size W w' → w'.cell? ⟨N, j, none⟩ = some u := fun N j u hN hNw hu w' h =>
    ((hon0.trans (h.mono hwW.size)).cell (p := ⟨N, j, none⟩) (by show N < _; omega) (fun e => by have : L ≤ N := (hSL.out _ e).1; omega)).trans hu
  have zR := hide (hbox NR 0 _ hNR hNRw hR)
  have zV0 := hide (hbox NV 0 _ hNV hNVw hV0)
  have zV1 := hide (hbox NV 1 _ hNV hNVw hV1)
  have zV2 := hide (hbox NV 2 _ hNV hNVw hV2)
  have hKW : Hid (OwnKd W L (.slice Ad n Cd) (progA (rsub reg v) 0 0 0 bs) xs ess) := hide (by rw [progA_start]; exact hK.kept fun q _ hq => hwW.block q hq)
  have hlx : xs.length = n := by rw [hK.lenx, hn]
  have hle : ess.length = n := by rw [hK.lene, hn]
  have hNRW : Hid (NR < W.heap.size ∧ NV < W.heap.size) := hide (by omega)
  have hself := Only.refl (ArgB ess) W.heap.size W
  have hwWh := hide hwW
  have hnH := hide hn
  have hcodeH := hide hcode
  have hv64h := hide hv64
  replace hWs := hide hWs
  clear hx hK hbox hon0 hNf hR hV0 hV1 hV2 hwW hn hcode hv64
  go_enter Try.func61, Try.ntmps61
  go_wp2
  go_loopw [9] (fun u wr => ∃ i : Nat, u = .int .i64 i ∧ i ≤ n ∧ Hid (OwnKd wr L (.slice Ad n Cd) (progA (rsub reg v) i 0 0 bs) xs ess) ∧ Only (ArgB ess) W.heap.size W wr) (fun u _ => n - (intOf u).toNat)
  case atStart => exact ⟨0, rfl, Nat.zero_le _, hKW, hself⟩
  case round =>
    clear hKW hself
    obtain ⟨i, rfl, hi, hK, hon⟩ := hrel
    by_cases hlt : i < n
    · have hii : (i : Int) < (n : Int) := by omega
      obtain ⟨c, hc⟩ := get_ex (l := bs) (k := i) (by rw [← hnH.out]; exact hlt)
      obtain ⟨xi, hxi⟩ := get_ex (l := xs) (k := i) (by omega)
      obtain ⟨es, hes⟩ := get_ex (l := ess) (k := i) (by omega)
      obtain ⟨gB, CB, hAd, -, -⟩ := hK.out.row.form (by rw [progA_len, ← hnH.out]; omega)
      have hAd' : Ad = some ⟨gB, 0, none⟩ := by cases hAd; rfl
      subst hAd'
      clear hAd CB
      obtain ⟨nc, hnc⟩ : ∃ nc, Hid (nc = c.length) := ⟨_, hide rfl⟩
      have hszc := hcodeH.out c (List.mem_of_getElem? hc.out)
      have hnc8 : nc ≤ 2000000 := by rw [hnc.out]; exact hszc.1
      have hszi := hide hszc.2
      have hCd0 := hK.out.inn i xi _ es hxi.out (progA_at hc.out) hes.out
      obtain ⟨Ac, Cc, hxf⟩ := row_form hCd0.row
      rw [progCodeA_len, ← hnc.out] at hxf
      subst hxf
      have hrow0 := hK.out.row
      rw [progA_len, ← hnH.out] at hrow0
      have r0 : wr.cell? ⟨gB, i, none⟩ = some (.slice Ac nc Cc) := by rw [World.ownsRow.cellAt hrow0 i (by omega)]; exact hxi.out
      clear hszc hCd0 hrow0
      go_wp2
      go_loopw [19] (fun u wr => ∃ k : Nat, u = .int .i64 k ∧ k ≤ nc ∧ Hid (OwnKd wr L (.slice (some ⟨gB, 0, none⟩) n Cd) (progA (rsub reg v) i k 0 bs) xs ess) ∧ Only (ArgB ess) W.heap.size W wr) (fun u _ => nc - (intOf u).toNat)
      case atStart => exact ⟨0, rfl, Nat.zero_le _, hK, hon⟩
      case round =>
        clear hK hon r0
        obtain ⟨k, rfl, hk, hK, hon⟩ := hrel
        by_cases hlt2 : k < nc
        · have hki : (k : Int) < (nc : Int) := by omega
          obtain ⟨x, hx⟩ := get_ex (l := c) (k := k) (by rw [← hnc.out]; exact hlt2)
          have hCd0 := hK.out.inn i _ _ es hxi.out (progA_at hc.out) hes.out
          obtain ⟨gc, CC, hAc, -, -⟩ := hCd0.row.form (by rw [progCodeA_len, ← hnc.out]; omega)
          have hAc' : Ac = some ⟨gc, 0, none⟩ := by cases hAc; rfl
          subst hAc'
          clear hAc CC
          have hrow0 := hK.out.row
          rw [progA_len, ← hnH.out] at hrow0
          have r0 : wr.cell? ⟨gB, i, none⟩ = some (.slice (some ⟨gc, 0, none⟩) nc Cc) := by rw [World.ownsRow.cellAt hrow0 i (by omega)]; exact hxi.out
          have hcall := hide (repl_any reg v hv64h.out i k L NR NV gc nc Cc _ bs xs ess c x es wr hK.out hc.out hx.out hes.out hxi.out (hszi.out x (List.mem_of_getElem? hx.out)).1 hNR hNV (Nat.lt_of_lt_of_le hNRW.out.1 hon.size) (Nat.lt_of_lt_of_le hNRW.out.2 hon.size) (zR.out wr hon) (zV0.out wr hon) (zV1.out wr hon) (zV2.out wr hon))
          have hbs := hon.size
          clear hCd0 hrow0
          go_wp2_with fail
          refine hcall.out.mono ?_
          rintro e w2 ⟨rfl, hK2, hon2⟩
          have hon3 := hon.next (Nat.le_refl _) hon2
          replace hK2 := hide hK2
          clear hcall hK hon hon2 r0
          go_wp2
          go_roundw
          case rel => exact ⟨k + 1, by go_num, hlt2, hK2, hon3⟩
          case measure => simp [intOf]; omega
        · obtain rfl : k = nc := by omega
          have hnext : Hid (OwnKd wr L (.slice (some ⟨gB, 0, none⟩) n Cd) (progA (rsub reg v) (i + 1) 0 0 bs) xs ess) := hide (by rw [← progA_next_block hc.out, ← hnc.out]; exact hK.out)
          go_wp2
          go_roundw
          case rel => exact ⟨i + 1, by go_num, hlt, hnext, hon⟩
          case measure => simp [intOf]; omega
    · obtain rfl : i = n := by omega
      have hE : progA (rsub reg v) i 0 0 bs = subAll (rsub reg v) bs := by rw [hnH.out]; exact progA_end
      rw [hE] at hK
      go_wp2
      go_end0
      exact ⟨rfl, hK.out, (Only.of_below hwWh.out).trans (hon.mono hwWh.out.size)⟩
end Go.Proofs.Ytaljdbmmjgmbbaa
