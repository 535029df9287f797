/- latheref14.uses, latheref14.Flat. No condition but sizes. -/
import Derived.Test.YtkhlnopbgngjbaaUsAf
import Derived.Test.YtkhlnopbgngjbaaUsB
import Derived.Test.YtkhlnopbgngjbaaIrN
import Derived.Test.YtkhlnopbgngjbaaIrAr
import Derived.Deep.RegionHeld3
namespace Go.Proofs.Ytkhlnopbgngjbaa
open Go.RowKit
set_option linter.unusedSimpArgs false
set_option linter.unusedVariables false

set_option maxRecDepth 100000 in
set_option maxHeartbeats 6400000 in
theorem uses14_any (x : Ins) (r : Int) (c d : Value) (w : World) (B : Nat) (hB : B ≤ w.heap.size) (hx : RIns.rep w B [.int .i64 x.op, .int .i64 x.reg, .int .i64 x.ty, .int .i64 x.num, .int .i64 x.flags, c, d] x) :
    Calls Try.prog 88 #[x.v c d, .int .i64 r] w fun e w' => e = .returned (.bool (useR x r)) ∧ Below w.heap.size w w' := by
  obtain ⟨c', d', e, ha, hto, -⟩ := hx
  simp only [List.cons.injEq, and_true, true_and] at e
  obtain ⟨rfl, rfl⟩ := e
  obtain ⟨A5, k5, h5, hm5, ga⟩ := Rp.slice_open (ROpds.later ha (Below.refl _ _) hB)
  obtain ⟨A6, k6, h6, hm6, -⟩ := Rp.slice1_open hto
  cases h5; cases h6
  replace ga := hide ga
  clear ha hto
  obtain ⟨W, hW, hwW, hWs, hxc⟩ := boxes1 w #[.int .i64 x.op, .int .i64 x.reg, .int .i64 x.ty, .int .i64 x.num, .int .i64 x.flags, .slice A5 x.args.length k5, .slice A6 x.to.length k6] 74
  have q5 : ∀ w', Below W.heap.size W w' → w'.cell? ⟨w.heap.size, 5, none⟩ = some (.slice A5 x.args.length k5) := hxc 5 _ rfl
  clear hxc
  have hws : w.heap.size ≤ W.heap.size := by omega
  replace hWs := hide hWs
  replace hwW := hide hwW
  have hself := Below.refl W.heap.size W
  replace hW := hide hW
  go_enter Try.func88, Try.ntmps88
  go_upto_region 1 with (fail)
  rw [hW.out]
  clear hW
  go_wp2
  go_loopw [5] (fun s wr => ∃ k : Nat, s = .int .i64 k ∧ k ≤ x.args.length ∧ Hid (∀ (j : Nat) v, j < k → x.args[j]? = some v → usesReg v r = false) ∧ Below W.heap.size W wr) (fun s _ => x.args.length - (intOf s).toNat)
  case atStart => exact ⟨0, rfl, Nat.zero_le _, hide (fun j v h => by omega), hself⟩
  case round =>
    clear hself
    obtain ⟨k, rfl, hk, hno, hbel⟩ := hrel
    by_cases hlt : k < x.args.length
    · have hki : (k : Int) < (x.args.length : Int) := by omega
      obtain ⟨v, hv⟩ := get_ex (l := x.args) (k := k) hlt
      obtain ⟨b5, o5, rfl, he5⟩ := ga.out (by omega)
      obtain ⟨_, _, ⟨rfl, hIv⟩, hav⟩ := he5 k v hv.out
      obtain ⟨p0, p1, p2⟩ := (hav.later hwW.out hws).three
      clear he5 hav hIv
      by_cases h1 : v.kind = 1
      · have h1b : (v.kind == 1) = true := by simp [h1]
        by_cases h2 : v.num = r
        · have h2b : (v.num == r) = true := by simp [h2]
          have hyes : Hid (useR x r = true) := hide (List.any_eq_true.2 ⟨v, List.mem_of_getElem? hv.out, by simp [usesReg, h1, h2]⟩)
          replace h1 := hide h1
          replace h2 := hide h2
          go_wp2
          go_ret
          exact ⟨by rw [hyes.out]; rfl, hwW.out.trans (hbel.mono hws)⟩
        · have h2b : (v.num == r) = false := by simp [h2]
          have hno2 : Hid (∀ (j : Nat) v, j < k + 1 → x.args[j]? = some v → usesReg v r = false) := hide (fun j u hj hu => by
            by_cases e : j = k
            · subst e; rw [hv.out] at hu; cases hu; simp [usesReg, h2]
            · exact hno.out j u (by omega) hu)
          replace h1 := hide h1
          replace h2 := hide h2
          go_wp2
          go_roundw
          case rel => exact ⟨k + 1, by go_num, hlt, hno2, hbel⟩
          case measure => simp [intOf]; omega
      · have h1b : (v.kind == 1) = false := by simp [h1]
        have hno2 : Hid (∀ (j : Nat) v, j < k + 1 → x.args[j]? = some v → usesReg v r = false) := hide (fun j u hj hu => by
          by_cases e : j = k
          · subst e; rw [hv.out] at hu; cases hu; simp [usesReg, h1]
          · exact hno.out j u (by omega) hu)
        replace h1 := hide h1
        go_wp2
        go_roundw
        case rel => exact ⟨k + 1, by go_num, hlt, hno2, hbel⟩
        case measure => simp [intOf]; omega
    · obtain rfl : k = x.args.length := by omega
      have hnone : Hid (useR x r = false) := hide (by
        unfold useR
        rw [List.any_eq_false]
        intro v hv
        obtain ⟨j, hj⟩ := List.mem_iff_getElem?.1 hv
        simp [hno.out j v (List.getElem?_eq_some_iff.1 hj).1 hj])
      go_wp2
      go_ret
      exact ⟨by rw [hnone.out]; rfl, hwW.out.trans (hbel.mono hws)⟩

def b01U (b : Bool) : Nat := if b then 1 else 0
def FlatPost (c : List Ins) (w : World) (e : Ending) (w' : World) : Prop := ∃ g, e = .returned (.slice (some ⟨g, 0, none⟩) c.length c.length) ∧ w'.ownsRow w.heap.size 4 1 (.slice (some ⟨g, 0, none⟩) c.length c.length) c.length ((c.map (needB c)).map Value.bool) ∧ Below w.heap.size w w'
theorem bcellU {w : World} {B g n : Nat} {l : List Bool} (h : w.ownsRow B 4 1 (.slice (some ⟨g, 0, none⟩) n n) n (l.map Value.bool)) {k : Nat} {b : Bool} (hk : l[k]? = some b) (hn : k < n) : w.cell? ⟨g, k, none⟩ = some (.bool b) := by
  rw [World.ownsRow.cellAt h k (by omega), List.getElem?_map, hk]; rfl
theorem made_boolsU {w : World} {B g n : Nat} (h : w.ownsRow B 4 1 (.slice (some ⟨g, 0, none⟩) n n) n (madeCells #[Value.bool false] n).toList) : w.ownsRow B 4 1 (.slice (some ⟨g, 0, none⟩) n n) n ((List.replicate n false).map Value.bool) := by
  have := made_oneU h
  rwa [List.map_replicate]
set_option maxRecDepth 100000 in
set_option maxHeartbeats 12800000 in
theorem flat14_any (f : Fun) (c1 c2 : Value) (w : World) (B : Nat) (hB : B ≤ w.heap.size) (hf : RFun.rep w B [.string f.name, c1, .int .i64 f.ret, c2] f) (hfl : f.blocks.flatten.length ≤ 2000000) :
    Calls Try.prog 57 #[f.v c1 c2] w (FlatPost f.blocks.flatten w) := by
  obtain ⟨hp, hb⟩ := fun_open (RFun.later hf (Below.refl _ _) hB)
  obtain ⟨A1, k1, h1, -, -⟩ := Rp.slice1_open hp
  obtain ⟨A2, k2, h2, hm2, -⟩ := Rp.slice1_open hb
  cases h1; cases h2
  clear hp hb
  obtain ⟨W, hW, hwW, hWs, hx⟩ := boxes1 w #[.string f.name, .slice A1 f.params.length k1, .int .i64 f.ret, .slice A2 f.blocks.length k2] 25
  have q0 : ∀ w', Below W.heap.size W w' → w'.cell? ⟨w.heap.size, 0, none⟩ = some (.string f.name) := hx 0 _ rfl
  have q1 : ∀ w', Below W.heap.size W w' → w'.cell? ⟨w.heap.size, 1, none⟩ = some (.slice A1 f.params.length k1) := hx 1 _ rfl
  have q2 : ∀ w', Below W.heap.size W w' → w'.cell? ⟨w.heap.size, 2, none⟩ = some (.int .i64 f.ret) := hx 2 _ rfl
  have q3 : ∀ w', Below W.heap.size W w' → w'.cell? ⟨w.heap.size, 3, none⟩ = some (.slice A2 f.blocks.length k2) := hx 3 _ rfl
  clear hx
  have hws : w.heap.size ≤ W.heap.size := by omega
  replace hWs := hide hWs
  have hself := Below.refl W.heap.size W
  have cC := hide (by
    obtain ⟨hp, hb⟩ := fun_open (RFun.later hf (hwW.mono hB) (Nat.le_trans hB hws))
    exact code_any f (.slice A1 f.params.length k1) (.slice A2 f.blocks.length k2) W W.heap.size (Nat.le_refl _) hp hb (by omega))
  obtain ⟨c, hc⟩ : ∃ c, Hid (c = f.blocks.flatten) := ⟨_, hide rfl⟩
  rw [← hc.out] at hfl ⊢
  replace hW := hide hW
  replace hwW := hide hwW
  obtain ⟨j0, hj0, hy0, hy1, hy2⟩ := cinfo_parts cinfo_boolU
  replace hj0 := hide hj0
  replace hy0 := hide hy0
  replace hy1 := hide hy1
  replace hy2 := hide hy2
  clear hf
  go_enter Try.func57, Try.ntmps57
  go_upto_region 1 with (fail)
  rw [hW.out]
  clear hW
  go_wp2_with (fail)
  refine cC.out.mono ?_
  rintro e X ⟨v1, v2, rfl, hbX, hr1, hr2⟩
  rw [← hc.out] at hr1
  obtain ⟨A3, k3, h3, hm3, ga⟩ := Rp.slice_open hr1
  obtain ⟨A4, k4, h4, hm4, -⟩ := Rp.slice_open hr2
  cases h3; cases h4
  replace ga := hide ga
  have hwX := hide (hwW.out.trans (hbX.mono hws))
  obtain ⟨N, hN⟩ : ∃ N, Hid (N = c.length) := ⟨_, hide rfl⟩
  rw [← hN.out] at hfl hm3 ⊢
  clear hr1 hr2 cC q0 q1 q2 q3 hself hbX
  have hselfX := Below.refl X.heap.size X
  go_wp2_with (at_make; refine wpList_make_full _ rfl (.tmp 18) (.tmp 18) _ rfl X.heap.size 4 j0 _ 1 Try.underlying36 hj0.out hy0.out hy1.out .i64 .i64 N N N rfl rfl rfl rfl ?c1 ?c2 (Nat.le_refl _) ?_)
  case c1 => rw [hy2.out]; omega
  case c2 => unfold maxLen; omega
  intro w5 hown5 hg5
  have hb5 := below_grownU hg5
  have hR5 : Hid (w5.ownsRow X.heap.size 4 1 (.slice (some ⟨X.heap.size, 0, none⟩) N N) N ((base0 c 0).map Value.bool)) := hide (by rw [base0_start, ← hN.out]; exact made_boolsU hown5)
  clear hown5 hg5
  go_wp2
  go_loopw [6] (fun s wr => ∃ i : Nat, s = .int .i64 i ∧ i ≤ N ∧ Hid (wr.ownsRow X.heap.size 4 1 (.slice (some ⟨X.heap.size, 0, none⟩) N N) N ((base0 c i).map Value.bool)) ∧ Below X.heap.size X wr) (fun s _ => N - (intOf s).toNat)
  case atStart => exact ⟨0, rfl, Nat.zero_le _, hR5, hb5⟩
  case round =>
    clear hR5 hb5 hselfX
    rename World => V
    obtain ⟨i, rfl, hi, hrow, hbel⟩ := hrel
    by_cases hlt : i < N
    · have hii : (i : Int) < (N : Int) := by omega
      obtain ⟨x, hx⟩ := get_ex (l := c) (k := i) (by rw [← hN.out]; exact hlt)
      obtain ⟨b3, o3, rfl, he3⟩ := ga.out (by rw [← hN.out]; omega)
      obtain ⟨_, _, ⟨a1, a2, rfl, ha, hto, -⟩, hcc⟩ := he3 i x hx.out
      obtain ⟨e0, -⟩ := hcc.seven
      clear he3 hcc ha hto
      obtain ⟨id, hid⟩ : ∃ id : Bool, Hid (iidle x.op = id) := ⟨_, hide rfl⟩
      have cId : Hid (∀ w', Calls Try.prog 86 #[.int .i64 x.op] w' fun e w'' => e = .returned (.bool id) ∧ w' = w'') := hide (fun w' => by
        have := ridle_any x.op w'
        rwa [hid.out] at this)
      have hbl : (base0 c i).length = N := by have := hrow.out.1; simpa using this
      obtain ⟨bv, hbv⟩ := get_ex (l := base0 c i) (k := i) (by omega)
      have rc := bcellU hrow.out hbv.out hlt
      have fc := World.ownsRow.frozenAt hrow.out i
      have hst := (World.ownsRow.stored hrow.out i (.bool (!id))).1
      rw [bmap_setU] at hst
      have hbn := hbel.setCell (p := ⟨X.heap.size, i, none⟩) (Nat.le_refl _) (.bool (!id))
      have hnx := base0_step hx.out
      rw [hid.out] at hnx
      rw [hnx] at hst
      replace hst := hide hst
      replace hnx := hide hnx
      replace hbn := hide hbn
      cases id <;>
      · go_wp2_with (go_at_call 86; refine (cId.out _).mono ?_; rintro e w' ⟨rfl, rfl⟩)
        go_roundw
        case rel => exact ⟨i + 1, by go_num, hlt, hst, hbn.out⟩
        case measure => simp [intOf]; omega
    · obtain rfl : i = N := by omega
      have hstart : Hid (FOut c (base0 c c.length) true) := hide (base0_end c)
      rw [← hN.out] at hstart
      go_wp2
      go_loopg [8] (2 * (base0 c i).count false + b01U true) (fun k u8 wr => ∃ (l : List Bool) (more : Bool), 2 * l.count false + b01U more = k ∧ u8 = .bool more ∧ Hid (FOut c l more) ∧ Hid (wr.ownsRow X.heap.size 4 1 (.slice (some ⟨X.heap.size, 0, none⟩) i i) i (l.map Value.bool)) ∧ Below X.heap.size X wr)
      case atStart => exact ⟨_, true, rfl, rfl, hstart, hrow, hbel⟩
      case round =>
        clear hstart hrow hbel
        rename World => V
        obtain ⟨l0, more0, hmu, rfl, hfo, hrow, hbel⟩ := hrel
        replace hmu := hide hmu
        cases more0 with
        | false =>
          have he := hfo.out.end_
          have hfin : Hid (V.ownsRow w.heap.size 4 1 (.slice (some ⟨X.heap.size, 0, none⟩) c.length c.length) c.length ((c.map (needB c)).map Value.bool)) := hide (by
            have h := row_mono hrow.out hwX.out.size
            rw [he, hN.out] at h
            exact h)
          replace he := hide he
          go_wp2
          go_ret
          exact ⟨X.heap.size, by rw [← hN.out]; first | done | rfl, hfin.out, hwX.out.trans (hbel.mono hwX.out.size)⟩
        | true =>
          have hst := hide hfo.out.start
          go_wp2
          go_loopw [8, 9] (fun m s wr => ∃ (k : Nat) (l : List Bool) (more : Bool), s = .int .i64 k ∧ m = .bool more ∧ k ≤ i ∧ Hid (FIn c l0 l more k) ∧ Hid (wr.ownsRow X.heap.size 4 1 (.slice (some ⟨X.heap.size, 0, none⟩) i i) i (l.map Value.bool)) ∧ Below X.heap.size X wr) (fun _ s _ => i - (intOf s).toNat)
          case atStart => exact ⟨0, l0, false, rfl, rfl, Nat.zero_le _, hst, hrow, hbel⟩
          case round =>
            clear hst hrow hbel
            rename World => V
            obtain ⟨k, l1, more1, rfl, rfl, hk, hin, hrow, hbel⟩ := hrel
            by_cases hltk : k < i
            · have hki : (k : Int) < (i : Int) := by omega
              obtain ⟨x, hx⟩ := get_ex (l := c) (k := k) (by rw [← hN.out]; exact hltk)
              obtain ⟨b3, o3, rfl, he3⟩ := ga.out (by rw [← hN.out]; omega)
              obtain ⟨_, _, ⟨a1, a2, rfl, ha, hto, -⟩, hcc⟩ := he3 k x hx.out
              obtain ⟨A5, k5, h5, hm5, -⟩ := Rp.slice_open ha
              obtain ⟨A6, k6, h6, hm6, -⟩ := Rp.slice1_open hto
              cases h5; cases h6
              obtain ⟨e0, e1, e2, e3, e4, e5, e6⟩ := hcc.seven
              clear hcc ha hto
              have hl1 : l1.length = i := by have := hin.out.len; rw [← hN.out] at this; exact this
              obtain ⟨bk, hbk⟩ := get_ex (l := l1) (k := k) (by omega)
              have rc := bcellU hrow.out hbk.out hltk
              cases bk with
              | true =>
                have hnx := hide (hin.out.skip hx.out (.inl hbk.out))
                clear he3
                go_wp2
                go_roundw
                case rel => exact ⟨k + 1, l1, more1, by go_num, rfl, hltk, hnx, hrow, hbel⟩
                case measure => simp [intOf]; omega
              | false =>
                obtain ⟨R, hR⟩ : ∃ R, Hid (R = iresult x.op x.ty) := ⟨_, hide rfl⟩
                have cRes : Hid (∀ w', Calls Try.prog 87 #[x.v (.slice A5 x.args.length k5) (.slice A6 x.to.length k6)] w' fun e w'' => e = .returned (.int .i64 R) ∧ Below w'.heap.size w' w'') := hide (fun w' => by
                  have := rresult_any x (.slice A5 x.args.length k5) (.slice A6 x.to.length k6) w'
                  rwa [← hR.out] at this)
                by_cases hR0 : R = 0
                · have hRb : (R == 0) = true := by simp [hR0]
                  have hnx := hide (hin.out.skip hx.out (.inr (by rw [← hR.out]; exact hR0)))
                  replace hR0 := hide hR0
                  clear he3
                  go_wp2_with (go_at_call 87; refine (cRes.out _).mono ?_; rintro e w3 ⟨rfl, hb3⟩; have hbel3 := hbel.trans (hb3.mono hbel.size))
                  have hrow3 := hide (row_kept hrow.out fun q hq => hb3.block q (row_lt hrow.out hq).2.1)
                  go_roundw
                  case rel => exact ⟨k + 1, l1, more1, by go_num, rfl, hltk, hnx, hrow3, hbel3⟩
                  case measure => simp [intOf]; omega
                · have hRb : (R == 0) = false := by simp [hR0]
                  have hRn : Hid (iresult x.op x.ty ≠ 0) := hide (by rw [← hR.out]; exact hR0)
                  have hat := hide (hin.out.enter (x := x) hbk.out)
                  replace hR0 := hide hR0
                  replace he3 := hide he3
                  go_upto_region 16 with (go_at_call 87; refine (cRes.out _).mono ?_; rintro e w3 ⟨rfl, hb3⟩; have hbel3 := hbel.trans (hb3.mono hbel.size))
                  have hrow3 := hide (row_kept hrow.out fun q hq => hb3.block q (row_lt hrow.out hq).2.1)
                  clear hb3 hrow hbel rc cRes
                  have y1 : ∀ w', Below X.heap.size X w' → w'.cell? ⟨b3, o3 + k * 7 + 1, none⟩ = some (.int .i64 x.reg) := e1
                  clear e0 e1 e2 e3 e4 e5 e6
                  go_loopw [8, 10] (fun m s wr => ∃ (j : Nat) (l : List Bool) (more : Bool), s = .int .i64 j ∧ m = .bool more ∧ j ≤ i ∧ Hid (FAt c l0 l more k j x) ∧ Hid (wr.ownsRow X.heap.size 4 1 (.slice (some ⟨X.heap.size, 0, none⟩) i i) i (l.map Value.bool)) ∧ Below X.heap.size X wr) (fun _ s _ => i - (intOf s).toNat)
                  case atStart => exact ⟨0, l1, more1, rfl, rfl, Nat.zero_le _, hat, hrow3, hbel3⟩
                  case round =>
                    clear hat hrow3 hbel3 hin hbk hl1
                    rename World => V
                    obtain ⟨j, l2, more2, rfl, rfl, hj, hat, hrow, hbel⟩ := hrel
                    by_cases hltj : j < i
                    · have hji : (j : Int) < (i : Int) := by omega
                      obtain ⟨y, hy⟩ := get_ex (l := c) (k := j) (by rw [← hN.out]; exact hltj)
                      obtain ⟨_, _, ⟨a1, a2, rfl, ha, hto, hok⟩, hcc⟩ := he3.out j y hy.out
                      have hri : Hid (RIns.rep X X.heap.size [.int .i64 y.op, .int .i64 y.reg, .int .i64 y.ty, .int .i64 y.num, .int .i64 y.flags, a1, a2] y) := hide ⟨a1, a2, rfl, ha, hto, hok⟩
                      obtain ⟨A7, k7, h7, hm7, -⟩ := Rp.slice_open ha
                      obtain ⟨A8, k8, h8, hm8, -⟩ := Rp.slice1_open hto
                      cases h7; cases h8
                      obtain ⟨e0, e1, e2, e3, e4, e5, e6⟩ := hcc.seven
                      clear hcc ha hto hok
                      have hVs := hbel.size
                      have t0 : ∀ w', Below V.heap.size V w' → w'.cell? ⟨b3, o3 + j * 7, none⟩ = some (.int .i64 y.op) := fun w' h => e0 w' (hbel.trans (h.mono hVs))
                      have t1 : ∀ w', Below V.heap.size V w' → w'.cell? ⟨b3, o3 + j * 7 + 1, none⟩ = some (.int .i64 y.reg) := fun w' h => e1 w' (hbel.trans (h.mono hVs))
                      have t2 : ∀ w', Below V.heap.size V w' → w'.cell? ⟨b3, o3 + j * 7 + 2, none⟩ = some (.int .i64 y.ty) := fun w' h => e2 w' (hbel.trans (h.mono hVs))
                      have t3 : ∀ w', Below V.heap.size V w' → w'.cell? ⟨b3, o3 + j * 7 + 3, none⟩ = some (.int .i64 y.num) := fun w' h => e3 w' (hbel.trans (h.mono hVs))
                      have t4 : ∀ w', Below V.heap.size V w' → w'.cell? ⟨b3, o3 + j * 7 + 4, none⟩ = some (.int .i64 y.flags) := fun w' h => e4 w' (hbel.trans (h.mono hVs))
                      have t5 : ∀ w', Below V.heap.size V w' → w'.cell? ⟨b3, o3 + j * 7 + 5, none⟩ = some (.slice A7 y.args.length k7) := fun w' h => e5 w' (hbel.trans (h.mono hVs))
                      have t6 : ∀ w', Below V.heap.size V w' → w'.cell? ⟨b3, o3 + j * 7 + 6, none⟩ = some (.slice A8 y.to.length k8) := fun w' h => e6 w' (hbel.trans (h.mono hVs))
                      have tr : ∀ w', Below V.heap.size V w' → w'.cell? ⟨b3, o3 + k * 7 + 1, none⟩ = some (.int .i64 x.reg) := fun w' h => y1 w' (hbel.trans (h.mono hVs))
                      obtain ⟨u, hu⟩ : ∃ u : Bool, Hid (useR y x.reg = u) := ⟨_, hide rfl⟩
                      have cU : Hid (∀ w', Below V.heap.size V w' → Calls Try.prog 88 #[y.v (.slice A7 y.args.length k7) (.slice A8 y.to.length k8), .int .i64 x.reg] w' fun e w'' => e = .returned (.bool u) ∧ Below w'.heap.size w' w'') := hide (fun w' h => by
                        have h9 := hbel.trans (h.mono hVs)
                        have := uses14_any y x.reg _ _ w' w'.heap.size (Nat.le_refl _) (RIns.later hri.out h9 h9.size)
                        rwa [hu.out] at this)
                      have hselfV := Below.refl V.heap.size V
                      have hl2 : l2.length = i := by have := hat.out.inn.len; rw [← hN.out] at this; exact this
                      obtain ⟨bj, hbj⟩ := get_ex (l := l2) (k := j) (by omega)
                      obtain ⟨bk2, hbk2⟩ := get_ex (l := l2) (k := k) (by omega)
                      clear e0 e1 e2 e3 e4 e5 e6
                      go_upto_region 18 with (fail)
                      go_region_held3 (fun w' => Below V.heap.size V w') (first | (with_reducible assumption) | exact hselfV.drew)
                        (first | (go_at_call 88; refine (cU.out _ hselfV.drew).mono ?_; rintro e w4 ⟨rfl, hb4⟩; have hV4 : Below V.heap.size V w4 := (hselfV.drew).trans hb4))
                      have hbel4 := hbel.trans (hV4.mono hVs)
                      have hrow4 := row_kept hrow.out fun q hq => hV4.block q (row_lt hrow.out hq).2.1
                      have rc4 := bcellU hrow4 hbj.out hltj
                      have rk4 := bcellU hrow4 hbk2.out hltk
                      have fk4 := World.ownsRow.frozenAt hrow4 k
                      have hst4 := (World.ownsRow.stored hrow4 k (.bool true)).1
                      rw [bmap_setU] at hst4
                      have hbn4 := hide (hbel4.setCell (p := ⟨X.heap.size, k, none⟩) (Nat.le_refl _) (.bool true))
                      replace hst4 := hide hst4
                      replace hrow4 := hide hrow4
                      clear t0 t1 t2 t3 t4 t5 t6 tr cU hselfV hb4 hV4
                      cases bj with
                      | false =>
                        have hnx := hide (hat.out.skip hy.out (.inl hbj.out))
                        go_wp2
                        go_roundw
                        case rel => exact ⟨j + 1, l2, more2, by go_num, rfl, hltj, hnx, hrow4, hbel4⟩
                        case measure => simp [intOf]; omega
                      | true =>
                        cases u with
                        | false =>
                          have hnx := hide (hat.out.skip hy.out (.inr hu.out))
                          go_wp2
                          go_roundw
                          case rel => exact ⟨j + 1, l2, more2, by go_num, rfl, hltj, hnx, hrow4, hbel4⟩
                          case measure => simp [intOf]; omega
                        | true =>
                          have hnx := hide (hat.out.mark hx.out hRn.out hy.out hbj.out hu.out)
                          go_wp2
                          go_roundw
                          case rel => exact ⟨j + 1, _, true, by go_num, rfl, hltj, hnx, hst4, hbn4.out⟩
                          case measure => simp [intOf]; omega
                    · obtain rfl : j = i := by omega
                      have hnx := hide (hat.out.leave hN.out hx.out)
                      go_wp2
                      go_roundw
                      case rel => exact ⟨k + 1, l2, more2, by go_num, rfl, hltk, hnx, hrow, hbel⟩
                      case measure => simp [intOf]; omega
            · obtain rfl : k = i := by omega
              have hfo2 := hide (hin.out.out hN.out)
              have hlt9 : Hid (2 * l1.count false + b01U more1 < gk) := hide (by
                rw [← hmu.out]
                cases more1 with
                | true => have := hin.out.less rfl; simp only [b01U]; simp; omega
                | false => rw [hin.out.same rfl]; simp [b01U])
              go_wp2
              go_roundg (2 * l1.count false + b01U more1)
              case measure => exact hlt9.out
              case rel => exact ⟨l1, more1, rfl, rfl, hfo2, hrow, hbel⟩
end Go.Proofs.Ytkhlnopbgngjbaa
