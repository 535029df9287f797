/- latheref06.has and latheref06.Succs. No condition but sizes. -/
import Derived.Test.YtaljdbmmjgmbbaaGrB
namespace Go.Proofs.Ytaljdbmmjgmbbaa
open Go.RowKit
set_option linter.unusedSimpArgs false
set_option linter.unusedVariables false

theorem decide_take {l : List Int} {k : Nat} {x t : Int} (h : l[k]? = some x) (hx : x ≠ t) (ht : t ∉ l.take k) : t ∉ l.take (k + 1) := by
  rw [List.take_add_one, h]
  simp only [Option.toList_some, List.mem_append, List.mem_singleton]
  rintro (h | h)
  · exact ht h
  · exact hx h.symm
set_option maxHeartbeats 800000 in
theorem has_any (u : Value) (l : List Int) (t : Int) (w : World) (B : Nat) (hB : B ≤ w.heap.size) (ha : RInts.rep w B [u] l) :
    Calls Try.prog 123 #[u, .int .i64 t] w fun e w' => e = .returned (.bool (decide (t ∈ l))) ∧ Below w.heap.size w w' := by
  obtain ⟨A1, c1, h1, hm1, ga⟩ := Rp.slice1_open (RInts.later ha (Below.refl _ _) hB)
  cases h1
  replace ga := hide ga
  have hself := Below.refl w.heap.size w
  go_enter Try.func123, Try.ntmps123
  go_wp2
  go_loopw [5] (fun i wr => ∃ k : Nat, k ≤ l.length ∧ i = .int .i64 k ∧ Hid (t ∉ l.take k) ∧ Below w.heap.size w wr) (fun i _ => l.length - (intOf i).toNat)
  case atStart => exact ⟨0, Nat.zero_le _, rfl, hide (by simp), hself⟩
  case round =>
    obtain ⟨k, hk, rfl, hall, hbel⟩ := hrel
    by_cases hlt : k < l.length
    · obtain ⟨b1, o1, rfl, het⟩ := ga.out (by omega)
      obtain ⟨x, hx⟩ := get_ex (l := l) (k := k) hlt
      obtain ⟨_, ⟨hrt, hti⟩, p0⟩ := het k x hx.out
      cases hrt
      clear het
      by_cases hxt : x = t
      · have hm : Hid (decide (t ∈ l) = true) := hide (decide_eq_true (by rw [← hxt]; exact List.mem_of_getElem? hx.out))
        subst hxt
        go_wp2
        go_ret
        exact ⟨by rw [hm.out]; rfl, hbel⟩
      · have hne : Hid (t ∉ l.take (k + 1)) := hide (decide_take hx.out hxt hall.out)
        go_wp2
        go_roundw
        case rel => exact ⟨k + 1, hlt, by go_num, hne, hbel⟩
        case measure => simp [intOf]; omega
    · obtain rfl : k = l.length := by omega
      have hm : Hid (decide (t ∈ l) = false) := hide (decide_eq_false (by have := hall.out; rwa [List.take_length] at this))
      go_wp2
      go_ret
      exact ⟨by rw [hm.out]; rfl, hbel⟩
set_option maxRecDepth 100000 in
set_option maxHeartbeats 6400000 in
theorem rsuccs_any (f : Fun) (b : Int) (c1 c2 : Value) (w : World) (B : Nat) (hB : B ≤ w.heap.size) (hf : RFun.rep w B [.string f.name, c1, .int .i64 f.ret, c2] f) (hs : Small f) :
    Calls Try.prog 114 #[f.v c1 c2, .int .i64 b] w (SuccPost (succsF f.blocks b) w) := by
  obtain ⟨hp, hb⟩ := fun_open (RFun.later hf (Below.refl _ _) hB)
  obtain ⟨A1, k1, h1, -, -⟩ := Rp.slice1_open hp
  obtain ⟨A2, k2, h2, hm2, gb⟩ := Rp.slice1_open hb
  cases h1; cases h2
  replace gb := hide gb
  clear hp hb hf
  obtain ⟨i0, hi0, hz0, hz1, hz2⟩ := cinfo_parts cinfo_int
  replace hi0 := hide hi0
  replace hz0 := hide hz0
  replace hz1 := hide hz1
  replace hz2 := hide hz2
  obtain ⟨n2, hn2⟩ : ∃ n, Hid (n = f.blocks.length) := ⟨_, hide rfl⟩
  rw [← hn2.out] at hm2 ⊢
  obtain ⟨W, hW, hwW, hWs, hx⟩ := boxes1 w #[.string f.name, .slice A1 f.params.length k1, .int .i64 f.ret, .slice A2 n2 k2] 25
  have x3 := hx 3 _ rfl
  clear hx
  have hws : w.heap.size ≤ W.heap.size := by omega
  replace hWs := hide hWs
  have hself := Below.refl W.heap.size W
  replace hs := hide hs
  by_cases h0 : 0 ≤ b
  case neg =>
    have hlt0 : b < 0 := by omega
    have hsp : Hid (succsF f.blocks b = []) := hide (by unfold succsF; rw [if_neg h0])
    go_enter Try.func114, Try.ntmps114
    go_wp2
    go_ret
    exact ⟨_, rfl, by rw [hsp.out]; exact OwnI.nil_, hwW⟩
  obtain ⟨k, rfl⟩ := Int.eq_ofNat_of_zero_le h0
  by_cases hlt : k < n2
  case neg =>
    have hsp : Hid (succsF f.blocks k = []) := hide (by unfold succsF; rw [if_pos h0, Int.toNat_natCast, List.getElem?_eq_none (by rw [← hn2.out]; omega)])
    have hk1 : ¬ (k : Int) < 0 := by omega
    have hk2 : (k : Int) ≥ (n2 : Int) := by omega
    go_enter Try.func114, Try.ntmps114
    go_wp2
    go_ret
    exact ⟨_, rfl, by rw [hsp.out]; exact OwnI.nil_, hwW⟩
  obtain ⟨x, hx⟩ := get_ex (l := f.blocks) (k := k) (by rw [← hn2.out]; exact hlt)
  obtain ⟨b1, o1, rfl, he1⟩ := gb.out (by rw [← hn2.out]; omega)
  obtain ⟨d1, hr1, hd1⟩ := he1 k x hx.out
  obtain ⟨A3, c3, h3, hm3, ga3⟩ := Rp.slice_open hr1
  cases h3
  replace ga3 := hide ga3
  have hd1' : ∀ w', Below W.heap.size W w' → w'.cell? ⟨b1, o1 + k, none⟩ = some (.slice A3 x.length c3) := fun w' h => hd1 w' (hwW.trans (h.mono hws))
  clear hd1 hr1 he1
  obtain ⟨nx, hnx⟩ : ∃ n, Hid (n = x.length) := ⟨_, hide rfl⟩
  rw [← hnx.out] at hm3 hd1'
  have hk1 : ¬ (k : Int) < 0 := by omega
  have hk2 : ¬ (k : Int) ≥ (n2 : Int) := by omega
  by_cases hx0 : nx = 0
  · have hsp : Hid (succsF f.blocks k = []) := hide (by unfold succsF; rw [if_pos h0, Int.toNat_natCast, hx.out]; show succsB _ x = []; rw [List.eq_nil_of_length_eq_zero (hnx.out.symm.trans hx0)]; rfl)
    subst hx0
    go_enter Try.func114, Try.ntmps114
    go_wp2
    go_ret
    exact ⟨_, rfl, by rw [hsp.out]; exact OwnI.nil_, hwW⟩
  obtain ⟨nl, rfl⟩ : ∃ m, nx = m + 1 := ⟨nx - 1, by omega⟩
  obtain ⟨ins, hin1, hin2⟩ := last_at (x := x) (by rw [← hnx.out]; omega)
  replace hin1 := hide hin1
  rw [← hnx.out, Nat.add_sub_cancel] at hin2
  replace hin2 := hide hin2
  obtain ⟨b3, o3, rfl, he3⟩ := ga3.out (by rw [← hnx.out]; omega)
  obtain ⟨_, _, ⟨a1, a2, rfl, ha, hto, hwf⟩, hc⟩ := he3 nl ins hin2.out
  obtain ⟨A5, k5, h5, -, -⟩ := Rp.slice_open ha
  obtain ⟨A6, k6, h6, hm6, gt⟩ := Rp.slice1_open hto
  cases h5; cases h6
  replace gt := hide gt
  obtain ⟨q0, q1, q2, q3, q4, q5, q6⟩ := (hc.later hwW hws).seven
  have hsm : ins.to.length ≤ 2000000 := ((hs.out.code x (List.mem_of_getElem? hx.out)).2 ins (List.mem_of_getElem? hin2.out)).2
  have hi64 : Hid (∀ y, y ∈ ins.to → I64 y) := hide (ints_src (RInts.later hto (Below.refl _ _) (Nat.le_refl _))).2.2.1
  clear he3 hc ha hto hwf
  have hkind : Hid (succsF f.blocks k = if ins.op = 31 ∨ ins.op = 32 then succsL n2 ins.to else []) := hide (by unfold succsF; rw [if_pos h0, Int.toNat_natCast, hx.out]; show succsB _ x = _; unfold succsB; rw [hin1.out, ← hn2.out])
  have e0 : ((nl + 1 : Nat) : Int) - 1 = (nl : Int) := by omega
  have e1 : (((nl + 1 : Nat) : Int) == 0) = false := by rw [beq_eq_false_iff_ne]; omega
  obtain ⟨X, hX, hWX, hXs, hz⟩ := boxes1 W #[.int .i64 ins.op, .int .i64 ins.reg, .int .i64 ins.ty, .int .i64 ins.num, .int .i64 ins.flags, .slice A5 ins.args.length k5, .slice A6 ins.to.length k6] 44
  have z0 : ∀ w', Below X.heap.size X w' → w'.cell? ⟨W.heap.size, 0, none⟩ = some (.int .i64 ins.op) := hz 0 _ rfl
  have z6 : ∀ w', Below X.heap.size X w' → w'.cell? ⟨W.heap.size, 6, none⟩ = some (.slice A6 ins.to.length k6) := hz 6 _ rfl
  clear hz
  have hWXs : W.heap.size ≤ X.heap.size := by omega
  have x3X : ∀ w', Below X.heap.size X w' → w'.cell? ⟨w.heap.size, 3, none⟩ = some (.slice (some ⟨b1, o1, none⟩) n2 k2) := fun w' h => x3 w' (hWX.trans (h.mono hWXs))
  have hwX := hide (hwW.trans (hWX.mono hws))
  have hselfX := Below.refl X.heap.size X
  replace hXs := hide hXs
  replace hWX := hide hWX
  by_cases hbr : ins.op = 31 ∨ ins.op = 32
  case neg =>
    have hsp : Hid (succsF f.blocks k = []) := hide (by rw [hkind.out, if_neg hbr])
    have hb1 : (ins.op != 31) = true := by rw [bne_iff_ne]; exact fun e => hbr (.inl e)
    have hb2 : (ins.op != 32) = true := by rw [bne_iff_ne]; exact fun e => hbr (.inr e)
    clear hbr
    go_enter Try.func114, Try.ntmps114
    go_wp2
    go_ret
    exact ⟨_, rfl, by rw [hsp.out]; exact OwnI.nil_, hwX.out⟩
  have hsp : Hid (succsF f.blocks k = succsL n2 ins.to) := hide (by rw [hkind.out, if_pos hbr])
  obtain ⟨nt, hnt⟩ : ∃ n, Hid (n = ins.to.length) := ⟨_, hide rfl⟩
  rw [← hnt.out] at q6 z6 hm6 hsm hX
  have hcase : (ins.op != 31) = false ∨ ((ins.op != 31) = true ∧ (ins.op != 32) = false) := by
    rcases hbr with h | h
    · exact .inl (by rw [h]; rfl)
    · exact .inr (by rw [h]; exact ⟨rfl, rfl⟩)
  replace hbr := hide hbr
  go_enter Try.func114, Try.ntmps114
  go_upto_region 8 with (fail)
  rcases hcase with ho | ⟨ho, ho2⟩
  all_goals
    go_wp2
    go_loopw [5, 8] (fun l i wr => ∃ j : Nat, j ≤ nt ∧ i = .int .i64 j ∧ Hid (OwnI wr X.heap.size l (succsL n2 (ins.to.take j))) ∧ Below X.heap.size X wr) (fun _ i _ => nt - (intOf i).toNat)
    case atStart => exact ⟨0, Nat.zero_le _, rfl, hide OwnI.nil_, hselfX⟩
    case round =>
      obtain ⟨j, hj, rfl, hl, hbel⟩ := hrel
      by_cases hlt2 : j < nt
      · obtain ⟨bt, ot, rfl, het⟩ := gt.out (by rw [← hnt.out]; omega)
        obtain ⟨t, ht⟩ := get_ex (l := ins.to) (k := j) (by rw [← hnt.out]; exact hlt2)
        obtain ⟨_, ⟨hrt, hti⟩, p0⟩ := het j t ht.out
        cases hrt
        replace p0 : ∀ w', Below X.heap.size X w' → w'.cell? ⟨bt, ot + j, none⟩ = some (.int .i64 t) := fun w' h => p0 w' (hwX.out.trans (h.mono hwX.out.size))
        clear het
        have hstep : Hid (succsL n2 (ins.to.take (j + 1)) = keepS n2 (succsL n2 (ins.to.take j)) t) := hide (succsL_take ht.out)
        obtain ⟨ac, hac⟩ : ∃ ac, Hid (succsL n2 (ins.to.take j) = ac) := ⟨_, hide rfl⟩
        have hlen : ac.length ≤ 2000000 := by rw [← hac.out]; exact Nat.le_trans (succsL_take_len _ _ _) (by rw [← hnt.out]; exact hsm)
        rw [hac.out] at hl hstep
        obtain ⟨g7, hg7, hf7⟩ : ∃ A C, u5 = .slice A ac.length C := row_form hl.out.row
        subst hf7
        have hbs := hbel.size
        have hselfr := Below.refl wr.heap.size wr
        have hcC : Hid (∀ w', Below wr.heap.size wr w' → Calls Try.prog 123 #[.slice g7 ac.length hg7, .int .i64 t] w' fun e w'' => e = .returned (.bool (decide (t ∈ ac))) ∧ Below w'.heap.size w' w'') := hide (fun w' h => has_any _ ac t w' w'.heap.size (Nat.le_refl _) (hl.out.kept fun k _ hk => h.block k hk).rep)
        have hti2 := hide hti
        clear hti
        obtain ⟨bm, hbm⟩ : ∃ bm, Hid (bm = decide (t ∈ ac)) := ⟨_, hide rfl⟩
        rw [← hbm.out] at hcC
        go_upto_region 14 with (first | (go_at_call 123; refine (hcC.out _ hselfr).mono ?_; rintro e w5 ⟨rfl, hb5⟩))
        have hl5 := hide (hl.out.kept fun k _ hk => hb5.block k hk)
        have hbel5 := hbel.trans (hb5.mono hbs)
        have hbs5 := hbel5.size
        clear hl hbel hbs hselfr hcC hb5
        by_cases hin : 0 ≤ t ∧ t < n2 ∧ t ∉ ac
        · have hk1 : decide (t ≥ 0) = true := decide_eq_true hin.1
          have hk2 : decide (t < (n2 : Int)) = true := decide_eq_true hin.2.1
          have hfb : bm = false := by rw [hbm.out]; exact decide_eq_false hin.2.2
          subst hfb
          have hsame : Hid (succsL n2 (ins.to.take (j + 1)) = ac ++ [t]) := hide (by rw [hstep.out, keepS_yes hin])
          replace hin := hide hin
          go_quiet (fail)
          have hl6 : Hid (OwnI (w5.drewN nq) X.heap.size (.slice g7 ac.length hg7) ac) := hide (hl5.out.kept fun k _ _ => rfl)
          have hbel6 : Below X.heap.size X (w5.drewN nq) := below_drewN hbel5 _
          have hbs6 : X.heap.size ≤ (w5.drewN nq).heap.size := hbs5
          obtain ⟨w6, hw6⟩ : ∃ w6, w6 = w5.drewN nq := ⟨_, rfl⟩
          rw [← hw6] at hl6 hbel6 hbs6 ⊢
          clear hw6 hl5 hbel5 hbs5
          go_wp2_with (first
            | (at_builtin
               refine wpList_append_own _ rfl (.tmp 80) (.tmp 86) _ rfl X.heap.size 3 i0 _ 1 8 Try.underlying22 hi0.out hz0.out hz1.out hz2.out rfl (by omega) (.slice g7 ac.length hg7) _ _ rfl (hl6.out.row.alloc _) ⟨w6.heap.size, 0, none⟩ 1 1 [.int .i64 t] rfl rfl ?c1 ?c2 ?c3 ?c4 ?c5 ?_
               case c1 => exact World.news_of_block (cs := #[.int .i64 t]) (t := 3) (fr := (0, 0)) (heap_alloc_new w6 _)
               case c2 => simp [Value.oneCell']
               case c3 => unfold maxLen; omega
               case c4 => omega
               case c5 => first | (simp; omega) | simp | omega
               intro v1 w1 hown1 hg1 _
               have hbw1 : Below X.heap.size X w1 := (hbel6.alloc hbs6 _).grown hg1 (by simp; omega) (fun k hk => (row_lt hl6.out.row hk).1)
               have hL := hide (OwnI.snoc hl6.out.ok hti2.out hown1)
               replace hown1 := hide hown1
               replace hg1 := hide hg1))
          go_roundw
          case rel => exact ⟨j + 1, hlt2, by go_num, hide (by rw [hsame.out]; exact hL.out), hbw1⟩
          case measure => simp [intOf]; omega
        · have hsame : Hid (succsL n2 (ins.to.take (j + 1)) = ac) := hide (by rw [hstep.out, keepS_no hin])
          have hL : Hid (∀ q, OwnI (w5.drewN q) X.heap.size (.slice g7 ac.length hg7) (succsL n2 (ins.to.take (j + 1)))) := hide (fun q => by rw [hsame.out]; exact hl5.out.kept fun k _ _ => rfl)
          have hb9 : ∀ q, Below X.heap.size X (w5.drewN q) := below_drewN hbel5
          by_cases ht0 : 0 ≤ t
          · have hk1 : decide (t ≥ 0) = true := decide_eq_true ht0
            by_cases ht1 : t < n2
            · have hk2 : decide (t < (n2 : Int)) = true := decide_eq_true ht1
              have hfb : bm = true := by rw [hbm.out]; exact decide_eq_true (Classical.byContradiction fun h => hin ⟨ht0, ht1, h⟩)
              subst hfb
              replace hin := hide hin
              go_quiet (fail)
              go_wp2
              go_roundw
              case rel => exact ⟨j + 1, hlt2, by go_num, hide (hL.out _), hb9 _⟩
              case measure => simp [intOf]; omega
            · have hk2 : decide (t < (n2 : Int)) = false := decide_eq_false ht1
              replace hin := hide hin
              clear ht1
              go_quiet (fail)
              go_wp2
              go_roundw
              case rel => exact ⟨j + 1, hlt2, by go_num, hide (hL.out _), hb9 _⟩
              case measure => simp [intOf]; omega
          · have hk1 : decide (t ≥ 0) = false := decide_eq_false ht0
            replace hin := hide hin
            clear ht0
            go_quiet (fail)
            go_wp2
            go_roundw
            case rel => exact ⟨j + 1, hlt2, by go_num, hide (hL.out _), hb9 _⟩
            case measure => simp [intOf]; omega
      · obtain rfl : j = nt := by omega
        go_wp2
        go_ret
        exact ⟨_, rfl, by rw [hsp.out]; have := hl.out; rw [List.take_of_length_le (by rw [hnt.out]; exact Nat.le_refl _)] at this; exact this.mono hwX.out.size, hwX.out.trans (hbel.mono hwX.out.size)⟩
end Go.Proofs.Ytaljdbmmjgmbbaa
