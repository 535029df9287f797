/- memssa.changes, memssa.phis. No condition but sizes. -/
import Derived.Test.YteeclobpajalmaaMsA
import Derived.Test.YteeclobpajalmaaLoP
namespace Go.Proofs.Yteeclobpajalmaa
open Go.RowKit
set_option linter.unusedSimpArgs false
set_option linter.unusedVariables false

theorem changes_any (op : Int) (w : World) : Calls Try.prog 63 #[.int .i64 op] w fun e w' => e = .returned (.bool (chgB op)) ∧ w' = w := by
  go_enter Try.func63, Try.ntmps63
  by_cases h1 : op = 28
  · have h1' : (op == 28) = true := by rw [h1]; rfl
    have hr : Hid (chgB op = true) := hide (by unfold chgB; rw [h1']; rfl)
    replace h1 := hide h1
    go_wp2
    go_ret
    exact ⟨ret_bool hr.out.symm, rfl⟩
  · have h1' : (op == 28) = false := by rw [beq_eq_false_iff_ne]; exact h1
    have hr : Hid (chgB op = (op == 30)) := hide (by unfold chgB; rw [h1']; rfl)
    replace h1 := hide h1
    go_wp2
    go_ret
    exact ⟨ret_bool hr.out.symm, rfl⟩
theorem rchanges_any (op : Int) (w : World) : Calls Try.prog 68 #[.int .i64 op] w fun e w' => e = .returned (.bool (chgB op)) ∧ w' = w := by
  go_enter Try.func68, Try.ntmps68
  by_cases h1 : op = 28
  · have h1' : (op == 28) = true := by rw [h1]; rfl
    have hr : Hid (chgB op = true) := hide (by unfold chgB; rw [h1']; rfl)
    replace h1 := hide h1
    go_wp2
    go_ret
    exact ⟨ret_bool hr.out.symm, rfl⟩
  · have h1' : (op == 28) = false := by rw [beq_eq_false_iff_ne]; exact h1
    have hr : Hid (chgB op = (op == 30)) := hide (by unfold chgB; rw [h1']; rfl)
    replace h1 := hide h1
    go_wp2
    go_ret
    exact ⟨ret_bool hr.out.symm, rfl⟩
/-- what the front loop asks of block b -/
def frontB (bs : List (List Ins)) (o : List Int) (b : Nat) : Bool := decide ((b : Int) ∈ o) && chgL (bs.getD b [])
theorem frontB_of {bs : List (List Ins)} {o : List Int} {b : Nat} {x : List Ins} (hx : bs[b]? = some x) : frontB bs o b = (decide ((b : Int) ∈ o) && chgL x) := by
  unfold frontB
  rw [List.getD_eq_getElem?_getD, hx]
  rfl
theorem front_start {bs : List (List Ins)} {o : List Int} {b : Nat} (h : 0 < b) : frontB bs o b = startB bs o b := by
  unfold frontB startB
  have : (b == 0) = false := by rw [beq_eq_false_iff_ne]; omega
  rw [this, Bool.false_or]
theorem pwL_zero {p : Nat → Bool} : pwL p 0 = [0] := rfl
theorem chgL_no {x : List Ins} (h : ∀ (j : Nat) ins, j < x.length → x[j]? = some ins → chgB ins.op = false) : chgL x = false := by
  unfold chgL
  rw [List.any_eq_false]
  intro i hi
  obtain ⟨j, hj⟩ := List.mem_iff_getElem?.1 hi
  rw [h j i (List.getElem?_eq_some_iff.1 hj).1 hj]
  simp
theorem chgL_yes {x : List Ins} {j : Nat} {ins : Ins} (h : x[j]? = some ins) (hc : chgB ins.op = true) : chgL x = true := by
  unfold chgL
  rw [List.any_eq_true]
  exact ⟨ins, List.mem_of_getElem? h, hc⟩
noncomputable def phiL (bs : List (List Ins)) (sc : Int → List Int) (o : List Int) (n : Nat) : List Bool := (List.range n).map (phiB (startB bs o) (frB sc o))
def PhisPost (n : Nat) (H : List Bool) (w : World) (e : Ending) (w' : World) : Prop := ∃ g, e = .returned (.slice (some ⟨g, 0, none⟩) n n) ∧ w'.ownsRow w.heap.size 4 1 (.slice (some ⟨g, 0, none⟩) n n) n (H.map Value.bool) ∧ Below w.heap.size w w'
set_option maxRecDepth 100000 in
set_option maxHeartbeats 12800000 in
theorem phis_any (f : Fun) (gr : Nat) (c1 c2 : Value) (w : World) (B : Nat) (hB : B ≤ w.heap.size) (hf : RFun.rep w B [.string f.name, c1, .int .i64 f.ret, c2] f) (hs : Small f) (hn0 : 0 < f.blocks.length)
    (hrd : ∀ k : Nat, k < f.blocks.length → ∀ w', Below w.heap.size w w' → w'.cell? ⟨gr, k, none⟩ = some (.bool (decide ((k : Int) ∈ orderF f.blocks)))) :
    Calls Try.prog 62 #[f.v c1 c2, .slice (some ⟨gr, 0, none⟩) f.blocks.length f.blocks.length] w (PhisPost f.blocks.length (phiL f.blocks (succsF f.blocks) (orderF f.blocks) f.blocks.length) w) := by
  obtain ⟨hp, hb⟩ := fun_open (RFun.later hf (Below.refl _ _) hB)
  obtain ⟨A1, k1, h1, -, -⟩ := Rp.slice1_open hp
  obtain ⟨A2, k2, h2, hm2, -⟩ := Rp.slice1_open hb
  cases h1; cases h2
  clear hb
  obtain ⟨-, hb⟩ := fun_open (RFun.later hf (Below.refl _ _) hB)
  obtain ⟨A2', k2', h2', -, gb⟩ := Rp.slice1_open hb
  cases h2'
  clear hp hb
  replace gb := hide gb
  obtain ⟨n, hn⟩ : ∃ n, Hid (n = f.blocks.length) := ⟨_, hide rfl⟩
  have hnle : n ≤ 2000000 := by rw [hn.out]; exact hs.blocks
  obtain ⟨O, hO⟩ : ∃ O, Hid (O = orderF f.blocks) := ⟨_, hide rfl⟩
  obtain ⟨sc, hsc⟩ : ∃ sc, Hid (sc = succsF f.blocks) := ⟨_, hide rfl⟩
  obtain ⟨R, hR⟩ : ∃ R, Hid (R = reachF f.blocks) := ⟨_, hide rfl⟩
  obtain ⟨P, hP⟩ : ∃ P, Hid (P = predsL sc n) := ⟨_, hide rfl⟩
  have hPl : P.length = n := by rw [hP.out, predsL_len]
  have hRl : R.length = n := by rw [hR.out, hn.out, reach_len]
  have hsok : Hid (∀ b, SuccOk n (sc b)) := hide (fun b => by rw [hsc.out, hn.out]; exact succsF_ok _ _)
  have hok : Hid (OrderOk n sc O) := hide (by rw [hO.out, hn.out, hsc.out]; exact order_ok _)
  have hol : O.length ≤ n := by rw [hO.out, hn.out]; exact order_len _
  have hRat : Hid (∀ k : Nat, k < n → R[k]? = some (decide ((k : Int) ∈ O))) := hide (fun k hk => by rw [hR.out, hO.out]; exact reach_at _ _ (by rw [← hn.out]; exact hk))
  rw [← hn.out, ← hO.out, ← hsc.out]
  rw [← hn.out] at hf hm2 hn0
  rw [← hO.out, ← hn.out] at hrd
  obtain ⟨W, hW, hwW, hWs, hx⟩ := boxes1 w #[.string f.name, .slice A1 f.params.length k1, .int .i64 f.ret, .slice A2 n k2] 25
  have q0 : ∀ w', Below W.heap.size W w' → w'.cell? ⟨w.heap.size, 0, none⟩ = some (.string f.name) := hx 0 _ rfl
  have q1 : ∀ w', Below W.heap.size W w' → w'.cell? ⟨w.heap.size, 1, none⟩ = some (.slice A1 f.params.length k1) := hx 1 _ rfl
  have q2 : ∀ w', Below W.heap.size W w' → w'.cell? ⟨w.heap.size, 2, none⟩ = some (.int .i64 f.ret) := hx 2 _ rfl
  have q3 : ∀ w', Below W.heap.size W w' → w'.cell? ⟨w.heap.size, 3, none⟩ = some (.slice A2 n k2) := hx 3 _ rfl
  clear hx
  have hws : w.heap.size ≤ W.heap.size := by omega
  replace hWs := hide hWs
  have hself := Below.refl W.heap.size W
  have hF : Hid (∀ w', Below W.heap.size W w' → RFun.rep w' w'.heap.size [.string f.name, .slice A1 f.params.length k1, .int .i64 f.ret, .slice A2 n k2] f) := hide (fun w' h => RFun.later hf ((hwW.trans (h.mono hws)).mono hB) (Nat.le_trans hB (hwW.trans (h.mono hws)).size))
  have cFr : Hid (∀ w', Below W.heap.size W w' → Calls Try.prog 92 #[f.v (.slice A1 f.params.length k1) (.slice A2 n k2)] w' (FrontPost sc O n w')) := hide (fun w' h => by
    have := front_any f (.slice A1 f.params.length k1) (.slice A2 n k2) w' w'.heap.size (Nat.le_refl _) (hF.out w' h) hs
    rwa [← hn.out, ← hO.out, ← hsc.out] at this)
  have hzb : Hid (∀ x, x ∈ f.blocks → x.length ≤ 2000000) := hide (fun x hx => (hs.code x hx).1)
  replace hs := hide hs
  replace hf := hide hf
  replace hwW := hide hwW
  obtain ⟨i0, hi0, hz0, hz1, hz2⟩ := cinfo_parts cinfo_int
  replace hi0 := hide hi0
  replace hz0 := hide hz0
  replace hz1 := hide hz1
  replace hz2 := hide hz2
  obtain ⟨b0, hb0, hx0, hx1, hx2⟩ := cinfo_parts cinfo_bool
  replace hb0 := hide hb0
  replace hx0 := hide hx0
  replace hx1 := hide hx1
  replace hx2 := hide hx2
  replace hrd := hide hrd
  obtain ⟨qf, hqf⟩ : ∃ qf, Hid (qf = frB sc O) := ⟨_, hide rfl⟩
  obtain ⟨S, hS⟩ : ∃ S, Hid (S = startB f.blocks O) := ⟨_, hide rfl⟩
  have h0O : Hid ((0 : Int) ∈ O) := hide ((ord_ok hok.out hn0).zero)
  have hSn : Hid (∀ b, S b = true → b < n) := hide (fun b hb => by
    rw [hS.out] at hb
    unfold startB at hb
    have := (hok.out.bound b (of_decide_eq_true (Bool.and_eq_true_iff.1 hb).1)).2
    omega)
  have hqn : Hid (∀ b t, qf b t = true → t < n) := hide (fun b t hb => by
    rw [hqf.out] at hb
    have := (hok.out.bound t (fr_out hok.out (frB_iff.1 hb))).2
    omega)
  unfold phiL
  rw [← hqf.out, ← hS.out]
  replace hW := hide hW
  go_enter Try.func62, Try.ntmps62
  go_upto_region 1 with (fail)
  rw [hW.out]
  clear hW
  go_wp2_with (fail)
  refine (cFr.out _ hself).mono ?_
  rintro e X1 ⟨gf, csf, rfl, hL1, hb1⟩
  rw [← hqf.out] at hL1
  have rfr := hide (rows_reads hL1 qL_len)
  have hWX : Hid (∀ w', Below X1.heap.size X1 w' → Below W.heap.size W w') := hide (fun w' h => hb1.trans (h.mono hb1.size))
  have hwX : Hid (∀ w', Below X1.heap.size X1 w' → Below w.heap.size w w') := hide (fun w' h => hwW.out.trans ((hWX.out w' h).mono hws))
  have hwXs : Hid (w.heap.size ≤ X1.heap.size) := hide (Nat.le_trans hws hb1.size)
  have p3 : ∀ w', Below X1.heap.size X1 w' → w'.cell? ⟨w.heap.size, 3, none⟩ = some (.slice A2 n k2) := fun w' h => q3 w' (hWX.out w' h)
  have hself1 := Below.refl X1.heap.size X1
  clear hL1 hb1 cFr q0 q1 q2 q3 hself hF
  go_wp2_with (at_make; refine wpList_make_full _ rfl (.tmp 19) (.tmp 19) _ rfl X1.heap.size 4 b0 _ 1 Try.underlying62 hb0.out hx0.out hx1.out .i64 .i64 n n n rfl rfl rfl rfl ?c1 ?c2 (Nat.le_refl _) ?_)
  case c1 => rw [hx2.out]; omega
  case c2 => unfold maxLen; omega
  intro w3 hown3 hg3
  have hbel3 := below_grown0 hg3
  have hmk3 : Hid (w3.ownsRow X1.heap.size 4 1 (.slice (some ⟨X1.heap.size, 0, none⟩) n n) n ((List.replicate n false).map Value.bool)) := hide (made_bools hown3)
  have hG3 : X1.heap.size < w3.heap.size := (row_lt hmk3.out (k := X1.heap.size) rfl).2.1
  obtain ⟨GH, hGH⟩ : ∃ GH, Hid (GH = X1.heap.size) := ⟨_, hide rfl⟩
  rw [← hGH.out] at hmk3 ⊢
  have hX3 : Hid (∀ w', Below w3.heap.size w3 w' → Below X1.heap.size X1 w') := hide (fun w' h => hbel3.trans (h.mono hbel3.size))
  have hself3 := Below.refl w3.heap.size w3
  have hst : Hid (OwnI (w3.alloc (.cells #[.int .i64 0] 3)) w3.heap.size (.slice (some ⟨w3.heap.size, 0, none⟩) (pwL (frontB f.blocks O) 0).length 1) (pwL (frontB f.blocks O) 0)) := hide (own_lit rfl rfl (fun x hx => by rw [pwL_zero] at hx; rw [List.mem_singleton.1 hx]; exact i64_mk (by omega) (by omega)) rfl (Nat.le_refl _) (by simp [pwL]))
  have hbst := hself3.alloc (Nat.le_refl _) (.cells #[.int .i64 0] 3)
  obtain ⟨L0, hL0⟩ : ∃ L0, Hid (L0 = pwL (frontB f.blocks O) 0) := ⟨_, hide rfl⟩
  have hL0l : L0.length = 1 := by rw [hL0.out]; rfl
  rw [← hL0.out, hL0l] at hst
  have hb4 := hX3.out _ hbst
  clear hown3 hg3 hself1 hself3 hbel3
  go_wp2
  go_loopw [7, 25] (fun s j wr => ∃ (k : Nat) (A : Option Addr) (C : Nat) (l : List Int), j = .int .i64 k ∧ s = .slice A l.length C ∧ k ≤ n ∧ Hid (l = pwL (frontB f.blocks O) k) ∧ Hid (OwnI wr w3.heap.size (.slice A l.length C) l) ∧ Below w3.heap.size w3 wr) (fun _ j _ => n - (intOf j).toNat)
  case atStart => exact ⟨0, some ⟨w3.heap.size, 0, none⟩, 1, L0, rfl, by rw [hL0l], Nat.zero_le _, hL0, by rw [hL0l]; exact hst, hbst⟩
  case round =>
    clear hst hbst hL0 hL0l hb4
    rename World => V
    obtain ⟨k, A, C, l, rfl, rfl, hk, hl, hwk, hbel⟩ := hrel
    have hVs := hbel.size
    have hll : l.length ≤ k + 1 := by rw [hl.out]; exact pwL_len
    have hstep := pwL_step (p := frontB f.blocks O) (b := k)
    rw [← hl.out] at hstep
    replace hstep := hide hstep
    by_cases hlt : k < n
    · have hki : (k : Int) < (n : Int) := by omega
      have hrk := hrd.out k hlt
      obtain ⟨rb, hrb⟩ : ∃ rb, Hid (decide ((k : Int) ∈ O) = rb) := ⟨_, hide rfl⟩
      rw [hrb.out] at hrk
      have hbV := hX3.out V hbel
      obtain ⟨x, hx⟩ := get_ex (l := f.blocks) (k := k) (by rw [← hn.out]; exact hlt)
      have hfb := frontB_of (o := O) hx.out
      rw [hrb.out] at hfb
      replace hfb := hide hfb
      have hxl : x.length ≤ 2000000 := hzb.out x (List.mem_of_getElem? hx.out)
      obtain ⟨b1, o1, rfl, he1⟩ := gb.out (by rw [← hn.out]; omega)
      obtain ⟨d1, hr1, hd1⟩ := he1 k x hx.out
      obtain ⟨A3, c3, h3, hm3, ga3⟩ := Rp.slice_open hr1
      cases h3
      replace ga3 := hide ga3
      have hd1' : ∀ w', Below X1.heap.size X1 w' → w'.cell? ⟨b1, o1 + k, none⟩ = some (.slice A3 x.length c3) := fun w' h => hd1 w' (hwX.out w' h)
      clear hd1 hr1 he1
      have hbel2 : Below w3.heap.size w3 (V.alloc (.cells #[.slice A3 x.length c3] 47)) := hbel.alloc hVs _
      have hwk2 := hide (hwk.out.below ((Below.refl V.heap.size V).alloc (Nat.le_refl _) (.cells #[.slice A3 x.length c3] 47)))
      have hno0 : Hid (∀ (j : Nat) ins, j < 0 → x[j]? = some ins → rb = true → chgB ins.op = false) := hide (fun j ins hj => by omega)
      go_wp2
      go_loopw [7, 33] (fun s j wr => ∃ i : Nat, j = .int .i64 i ∧ s = .slice A l.length C ∧ i ≤ x.length ∧ Hid (∀ (j : Nat) ins, j < i → x[j]? = some ins → rb = true → chgB ins.op = false) ∧ Hid (OwnI wr w3.heap.size (.slice A l.length C) l) ∧ Below w3.heap.size w3 wr) (fun _ j _ => x.length - (intOf j).toNat)
      case atStart => exact ⟨0, rfl, rfl, Nat.zero_le _, hno0, hwk2, hbel2⟩
      case round =>
        clear hno0 hwk2 hbel2 hwk hbel hbV hVs
        rename World => V
        obtain ⟨i, rfl, rfl, hi, hno, hwk, hbel⟩ := hrel
        have hVs := hbel.size
        by_cases hlti : i < x.length
        · have hii : (i : Int) < (x.length : Int) := by omega
          obtain ⟨b3, o3, rfl, he3⟩ := ga3.out (by omega)
          obtain ⟨ins, hins⟩ := get_ex (l := x) (k := i) hlti
          obtain ⟨_, _, ⟨a1, a2, rfl, ha, hto, -, hokr, -⟩, hc⟩ := he3 i ins hins.out
          obtain ⟨A5, k5, h5, hm5, -⟩ := Rp.slice_open ha
          obtain ⟨A6, k6, h6, hm6, -⟩ := Rp.slice1_open hto
          cases h5; cases h6
          have hbV := hX3.out V hbel
          obtain ⟨e0, e1, e2, e3, e4, e5, e6⟩ := hc.seven
          have e0 := e0 V (hwX.out V hbV)
          have e1 := e1 V (hwX.out V hbV)
          have e2 := e2 V (hwX.out V hbV)
          have e3 := e3 V (hwX.out V hbV)
          have e4 := e4 V (hwX.out V hbV)
          have e5 := e5 V (hwX.out V hbV)
          have e6 := e6 V (hwX.out V hbV)
          clear he3 ha hto hc hokr
          obtain ⟨Z, hZ, hwZ, hZs, hzc⟩ := boxes1 V #[.int .i64 ins.op, .int .i64 ins.reg, .int .i64 ins.ty, .int .i64 ins.num, .int .i64 ins.flags, .slice A5 ins.args.length k5, .slice A6 ins.to.length k6] 50
          have hbelZ : Below w3.heap.size w3 Z := hbel.trans (hwZ.mono hVs)
          have hbZ := hX3.out Z hbelZ
          have hwkZ := hide (hwk.out.below hwZ)
          have y0 := hzc 0 _ rfl Z (Below.refl _ _)
          have rk0 := hrk Z (hwX.out Z hbZ)
          have hZ3 := hbelZ.size
          replace hwZ := hide hwZ
          replace hZs := hide hZs
          replace hZ := hide hZ
          clear hzc hwk hbel hrk
          go_upto_region 10 with (fail)
          rw [hZ.out]
          clear hZ e0 e1 e2 e3 e4 e5 e6
          cases rb with
          | false =>
            have hno2 : Hid (∀ (j : Nat) ins, j < i + 1 → x[j]? = some ins → false = true → chgB ins.op = false) := hide (fun j ins _ _ h => by cases h)
            go_wp2
            go_roundw
            case rel => exact ⟨i + 1, by go_num, rfl, hlti, hno2, hwkZ, hbelZ⟩
            case measure => simp [intOf]; omega
          | true =>
            obtain ⟨cb, hcb⟩ : ∃ cb, Hid (chgB ins.op = cb) := ⟨_, hide rfl⟩
            have cC := changes_any ins.op Z
            rw [hcb.out] at cC
            replace cC := hide cC
            cases cb with
            | false =>
              have hno2 : Hid (∀ (j : Nat) ins, j < i + 1 → x[j]? = some ins → true = true → chgB ins.op = false) := hide (fun j ins' hj hx' _ => by
                by_cases e : j = i
                · subst e
                  rw [hins.out] at hx'
                  cases hx'
                  exact hcb.out
                · exact hno.out j ins' (by omega) hx' rfl)
              go_wp2_with (fail)
              refine cC.out.mono ?_
              rintro e w9 ⟨rfl, rfl⟩
              go_wp2
              go_roundw
              case rel => exact ⟨i + 1, by go_num, rfl, hlti, hno2, hwkZ, hbelZ⟩
              case measure => simp [intOf]; omega
            | true =>
              have hnx : Hid (l ++ [(k : Int)] = pwL (frontB f.blocks O) (k + 1)) := hide (by rw [hstep.out, hfb.out, chgL_yes hins.out hcb.out]; rfl)
              have hkI : Hid (I64 (k : Int)) := hide (i64_mk (by omega) (by omega))
              go_wp2_with (fail)
              refine cC.out.mono ?_
              rintro e w9 ⟨rfl, rfl⟩
              go_wp2_with (first
                | (at_builtin
                   refine wpList_append_own _ rfl (.tmp 46) (.tmp 48) _ rfl (w3.heap.size) 3 i0 _ 1 8 Try.underlying22 hi0.out hz0.out hz1.out hz2.out rfl (by omega) (.slice A l.length C) _ _ rfl (hwkZ.out.row.alloc _) ⟨w9.heap.size, 0, none⟩ 1 1 [.int .i64 k] rfl rfl ?c1 ?c2 ?c3 ?c4 ?c5 ?_
                   case c1 => exact World.news_of_block (cs := #[.int .i64 k]) (t := 3) (fr := (0, 0)) (heap_alloc_new w9 _)
                   case c2 => simp [Value.oneCell']
                   case c3 => unfold maxLen; omega
                   case c4 => omega
                   case c5 => first | (simp; omega) | simp | omega
                   intro v1 w1 hown1 hg1 _
                   have hbw1 : Below w3.heap.size w3 w1 := (hbelZ.alloc hZ3 _).grown hg1 (by simp; omega) (fun k hk => (row_lt hwkZ.out.row hk).1)
                   obtain ⟨A8, C8, hv8⟩ := row_form (OwnI.snoc hwkZ.out.ok hkI.out hown1).row
                   have hL := hide (OwnI.snoc hwkZ.out.ok hkI.out hown1)
                   subst hv8
                   replace hown1 := hide hown1
                   replace hg1 := hide hg1))
              go_roundw
              case rel => exact ⟨k + 1, A8, C8, l ++ [(k : Int)], by go_num, by simp, hlt, hnx, hL, hbw1⟩
              case measure => simp [intOf]; omega
        · obtain rfl : i = x.length := by omega
          have hnx : Hid (l = pwL (frontB f.blocks O) (k + 1)) := hide (by
            rw [hstep.out, hfb.out]
            cases rb with
            | false => simp
            | true => rw [chgL_no (fun j ins hj hx' => hno.out j ins hj hx' rfl)]; simp)
          go_wp2
          go_roundw
          case rel => exact ⟨k + 1, A, C, l, by go_num, rfl, hlt, hnx, hwk, hbel⟩
          case measure => simp [intOf]; omega
    · obtain rfl : k = n := by omega
      have hpw : Hid (PwI S qf k (List.replicate k false) l) := hide (by
        rw [hl.out, hS.out]
        refine pw_start hn0 ?_ (fun b hb => front_start hb) (fun h => ?_)
        · unfold startB
          rw [decide_eq_true (show ((0 : Nat) : Int) ∈ O from h0O.out)]
          rfl
        · unfold startB
          rw [decide_eq_true (show ((0 : Nat) : Int) ∈ O from h0O.out)]
          rfl)
      have hmkV : Hid (V.ownsRow GH 4 1 (.slice (some ⟨GH, 0, none⟩) k k) k ((List.replicate k false).map Value.bool)) := hide (row_kept hmk3.out fun q hq => hbel.block q (row_lt hmk3.out hq).2.1)
      have hwkV : Hid (OwnI V (GH + 1) (.slice A l.length C) l) := hide (hwk.out.mono (by rw [hGH.out]; exact hG3))
      have hbV := hX3.out V hbel
      obtain ⟨m9, hm9⟩ : ∃ m9, Hid ((List.replicate k false).count false + l.length = m9) := ⟨_, hide rfl⟩
      clear hbel hwk hl hstep hmk3 hX3 hrd hG3 hVs hll
      go_wp2
      go_loopg [7] m9 (fun g s wr => ∃ (A : Option Addr) (C : Nat) (l : List Int) (has : List Bool), Hid (has.count false + l.length = g) ∧ s = .slice A l.length C ∧ Hid (PwI S qf k has l) ∧ Hid (wr.ownsRow GH 4 1 (.slice (some ⟨GH, 0, none⟩) k k) k (has.map Value.bool)) ∧ Hid (OwnI wr (GH + 1) (.slice A l.length C) l) ∧ Below X1.heap.size X1 wr)
      case atStart => exact ⟨A, C, l, _, hm9, rfl, hpw, hmkV, hwkV, hbV⟩
      case round =>
        clear hpw hmkV hwkV hbV hm9
        rename World => V
        obtain ⟨A, C, l, has, hmu, rfl, hpw, hmk, hwk, hbel⟩ := hrel
        have hVs := hbel.size
        rcases List.eq_nil_or_concat l with rfl | ⟨l0, b', hle⟩
        · have hl0 : ([] : List Int).length = 0 := rfl
          have hend : Hid (has = (List.range k).map (phiB S qf)) := hide (List.ext_getElem? fun j => by
            by_cases hj : j < k
            · rw [pw_done hpw.out hSn.out hqn.out j hj, List.getElem?_map, List.getElem?_range hj]; rfl
            · rw [List.getElem?_eq_none (by rw [hpw.out.len]; omega), List.getElem?_eq_none (by simp; omega)])
          have hfin : Hid (V.ownsRow w.heap.size 4 1 (.slice (some ⟨GH, 0, none⟩) k k) k (((List.range k).map (phiB S qf)).map Value.bool)) := hide (by
            rw [← hend.out]
            exact row_mono hmk.out (by rw [hGH.out]; exact hwXs.out))
          have hw := hide (hwX.out V hbel)
          go_wp2
          go_ret
          exact ⟨GH, rfl, hfin.out, hw.out⟩
        · rw [List.concat_eq_append] at hle
          subst hle
          obtain ⟨b, rfl, hpr⟩ := pw_pop hpw.out
          have hroom := hpw.out.room
          obtain ⟨m, hm⟩ : ∃ m, Hid (m = l0.length) := ⟨_, hide rfl⟩
          have hlen1 : (l0 ++ [(b : Int)]).length = m + 1 := by rw [List.length_append, hm.out]; rfl
          rw [hlen1] at hroom
          have hKK : OwnI V (GH + 1) (.slice A (m + 1) C) (l0 ++ [(b : Int)]) := by rw [← hlen1]; exact hwk.out
          obtain ⟨g, rfl⟩ : ∃ g, A = some ⟨g, 0, none⟩ := by
            have hr := hwk.out.row
            obtain ⟨g, cap, hv, -, -⟩ := hr.form (by rw [hlen1]; omega)
            cases hv
            exact ⟨g, rfl⟩
          rw [hm.out] at hKK
          obtain ⟨r0, hcap1, hcap2⟩ := hKK.last
          have hKp := hide hKK.pop
          rw [← hm.out] at r0 hcap1 hKp hpr
          rw [hlen1] at hmu ⊢
          have hbk : b < k := hpr.lt
          obtain ⟨m0, hm0⟩ : ∃ m0, Hid (m0 = has.count false + (m + 1)) := ⟨_, hide rfl⟩
          rw [← hm0.out] at hpr hmu
          have hm02 : m0 ≤ 2 * k + 1 := by rw [hm0.out]; exact hroom
          obtain ⟨A7, C7, hrow, hel⟩ := rfr.out b _ (qL_at hbk)
          have hrow0 := hrow V hbel
          obtain ⟨row, hrw⟩ : ∃ row, Hid (row = qAt qf b k) := ⟨_, hide rfl⟩
          rw [← hrw.out] at hel hrow0 hrow
          have hrl : row.length ≤ k := by rw [hrw.out]; exact qAt_len
          replace hel := hide hel
          have e1 : ((m + 1 : Nat) : Int) > 0 := by omega
          have e2 : ((m + 1 : Nat) : Int) - 1 = (m : Int) := by omega
          replace hpr := hide hpr
          clear hwk hKK hpw hlen1 hroom hrow hm0
          go_wp2
          go_loopw [7, 71] (fun s j wr => ∃ (i : Nat) (A : Option Addr) (C : Nat) (l : List Int) (has : List Bool), j = .int .i64 i ∧ s = .slice A l.length C ∧ i ≤ row.length ∧ Hid (PwR S qf k m0 has l b i) ∧ Hid (wr.ownsRow GH 4 1 (.slice (some ⟨GH, 0, none⟩) k k) k (has.map Value.bool)) ∧ Hid (OwnI wr (GH + 1) (.slice A l.length C) l) ∧ Below X1.heap.size X1 wr) (fun _ j _ => row.length - (intOf j).toNat)
          case atStart => exact ⟨0, some ⟨g, 0, none⟩, C, l0, has, rfl, by rw [hm.out], Nat.zero_le _, hpr, hmk, by rw [← hm.out]; exact hKp, hbel⟩
          case round =>
            clear hpr hmk hKp hbel r0 hVs hrow0
            rename World => V
            obtain ⟨i, A, C, l, has, rfl, rfl, hi, hpr, hmk, hwk, hbel⟩ := hrel
            have hVs := hbel.size
            by_cases hlti : i < row.length
            · have hii : (i : Int) < (row.length : Int) := by omega
              obtain ⟨t', ht⟩ := get_ex (l := row) (k := i) hlti
              have htq := ht.out
              rw [hrw.out] at htq
              obtain ⟨t, rfl, htk, -⟩ := qAt_mem.1 (List.mem_of_getElem? htq)
              replace htq := hide htq
              obtain ⟨g5, hg5, rx⟩ := hel.out (by omega)
              subst hg5
              have rx0 := rx i _ ht.out V hbel
              clear rx
              obtain ⟨hb, hhb⟩ := get_ex (l := has) (k := t) (by rw [hpr.out.len]; exact htk)
              have s1 : V.cell? ⟨GH, t, none⟩ = some (.bool hb) := OwnB.cell hmk.out hhb.out htk
              cases hb with
              | true =>
                have hpr2 := hide (pw_known hpr.out htq.out hhb.out)
                go_wp2
                go_roundw
                case rel => exact ⟨i + 1, A, C, l, has, by go_num, rfl, hlti, hpr2, hmk, hwk, hbel⟩
                case measure => simp [intOf]; omega
              | false =>
                have hpr2 := hide (pw_mark hpr.out htq.out hhb.out)
                have f1 : V.frozen? ⟨GH, t, none⟩ = false := World.ownsRow.frozenAt hmk.out t
                have st := (World.ownsRow.stored hmk.out t (.bool true)).1
                rw [bmap_set] at st
                have hbut := But.stored (j := t) (u := .bool true) hmk.out
                obtain ⟨V2, hV2⟩ : ∃ V2, Hid (V.setCell ⟨GH, t, none⟩ (.bool true) = V2) := ⟨_, hide rfl⟩
                have hbel2 : Below X1.heap.size X1 (V.setCell ⟨GH, t, none⟩ (.bool true)) := hbel.setCell (p := ⟨GH, t, none⟩) (by show X1.heap.size ≤ GH; rw [hGH.out]; exact Nat.le_refl _) _
                rw [hV2.out] at st hbut hbel2
                have hwk2 : Hid (OwnI V2 (GH + 1) (.slice A l.length C) l) := hide ⟨hbut.row (by decide) hwk.out.row, hwk.out.ok⟩
                replace st := hide st
                have hGV : GH + 1 ≤ V2.heap.size := (row_lt st.out (k := GH) rfl).2.1
                have htI : Hid (I64 (t : Int)) := hide (i64_mk (by omega) (by omega))
                have hV2s := hbel2.size
                have hll : l.length ≤ 4000002 := by have := hpr.out.room; omega
                have hGX : X1.heap.size ≤ GH := by rw [hGH.out]; exact Nat.le_refl _
                replace hbut := hide hbut
                clear hmk hwk
                go_upto_region 22 with (fail)
                rw [hV2.out]
                clear hV2
                go_wp2_with (first
                  | (at_builtin
                     refine wpList_append_own _ rfl (.tmp 83) (.tmp 85) _ rfl ((GH + 1)) 3 i0 _ 1 8 Try.underlying22 hi0.out hz0.out hz1.out hz2.out rfl (by omega) (.slice A l.length C) _ _ rfl (hwk2.out.row.alloc _) ⟨V2.heap.size, 0, none⟩ 1 1 [.int .i64 t] rfl rfl ?c1 ?c2 ?c3 ?c4 ?c5 ?_
                     case c1 => exact World.news_of_block (cs := #[.int .i64 t]) (t := 3) (fr := (0, 0)) (heap_alloc_new V2 _)
                     case c2 => simp [Value.oneCell']
                     case c3 => unfold maxLen; omega
                     case c4 => omega
                     case c5 => first | (simp; omega) | simp | omega
                     intro v1 w1 hown1 hg1 _
                     have hbw1 : Below X1.heap.size X1 w1 := (hbel2.alloc hV2s _).grown hg1 (by simp; omega) (fun k hk => by have := (row_lt hwk2.out.row hk).1; omega)
                     obtain ⟨A8, C8, hv8⟩ := row_form (OwnI.snoc hwk2.out.ok htI.out hown1).row
                     have hL := hide (OwnI.snoc hwk2.out.ok htI.out hown1)
                     have hb9 := But.grown hwk2.out.row hg1
                     have hmk9 := hide (hb9.row (by decide) st.out)
                     subst hv8
                     replace hown1 := hide hown1
                     replace hg1 := hide hg1))
                go_roundw
                case rel => exact ⟨i + 1, A8, C8, l ++ [(t : Int)], _, by go_num, by simp, hlti, hpr2, hmk9, hL, hbw1⟩
                case measure => simp [intOf]; omega
            · obtain rfl : i = row.length := by omega
              have hpe : PwI S qf k has l ∧ has.count false + l.length < m0 := by
                have h := hpr.out
                rw [hrw.out] at h
                exact pw_end h hm02
              obtain ⟨hpe1, hpe2⟩ := hpe
              have hgl : Hid (has.count false + l.length < gk) := hide (by rw [← hmu.out]; exact hpe2)
              replace hpe1 := hide hpe1
              replace hpe2 := hide hpe2
              go_wp2
              go_roundg (has.count false + l.length)
              case measure => exact hgl.out
              case rel => exact ⟨A, C, l, has, hide rfl, rfl, hpe1, hmk, hwk, hbel⟩
end Go.Proofs.Yteeclobpajalmaa
