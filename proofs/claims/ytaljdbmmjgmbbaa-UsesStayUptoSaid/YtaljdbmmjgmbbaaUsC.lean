/- uses.Needed, walked. No condition but sizes. -/
import Derived.Test.YtaljdbmmjgmbbaaUsB
import Derived.Deep.RegionHeld3
import Derived.Deep.AppendLies
namespace Go.Proofs.Ytaljdbmmjgmbbaa
open Go.RowKit
set_option linter.unusedSimpArgs false
set_option linter.unusedVariables false

def NeededPost (bs : List (List Ins)) (w : World) (e : Ending) (w' : World) : Prop :=
  ∃ g gs T, e = .returned (.slice (some ⟨g, 0, none⟩) bs.length bs.length) ∧ TabV w' w.heap.size g bs.length (fun b => (bs.getD b []).length) gs T bs.length ∧ (∀ b i x, insAt bs b i = some x → T b i = needB bs.flatten x) ∧ Below w.heap.size w w'
theorem bkU {w : World} (n : Nat) : Below w.heap.size w (w.drewN n) := below_drewN (Below.refl _ _) n
set_option maxRecDepth 100000 in
set_option maxHeartbeats 12800000 in
theorem needed_any (f : Fun) (c1 c2 : Value) (w : World) (B : Nat) (hB : B ≤ w.heap.size) (hf : RFun.rep w B [.string f.name, c1, .int .i64 f.ret, c2] f) (hs : Small f) (hfl : f.blocks.flatten.length ≤ 2000000) :
    Calls Try.prog 71 #[f.v c1 c2] w (NeededPost f.blocks w) := by
  obtain ⟨hp, hb⟩ := fun_open (RFun.later hf (Below.refl _ _) hB)
  obtain ⟨A1, k1, h1, -, -⟩ := Rp.slice1_open hp
  obtain ⟨A2, k2, h2, hm2, gb⟩ := Rp.slice1_open hb
  cases h1; cases h2
  replace gb := hide gb
  clear hp hb hf
  obtain ⟨n, hn⟩ : ∃ n, Hid (n = f.blocks.length) := ⟨_, hide rfl⟩
  obtain ⟨len, hlen⟩ : ∃ len : Nat → Nat, Hid (len = fun b => (f.blocks.getD b []).length) := ⟨_, hide rfl⟩
  have hlenx : Hid (∀ (b : Nat) l, f.blocks[b]? = some l → len b = l.length) := hide (fun b l h => by rw [hlen.out]; show (f.blocks.getD b []).length = _; rw [getD_nil h])
  have hcode : Hid (∀ (b : Nat) l, f.blocks[b]? = some l → l.length ≤ 2000000 ∧ ∀ i, i ∈ l → i.args.length ≤ 2000000) := hide (fun b l h => ⟨(hs.code l (List.mem_of_getElem? h)).1, fun i hi => ((hs.code l (List.mem_of_getElem? h)).2 i hi).1⟩)
  have hnle : n ≤ 2000000 := by rw [hn.out]; exact hs.blocks
  rw [← hn.out] at hm2 ⊢
  obtain ⟨i0, hi0, hz0, hz1, hz2⟩ := cinfo_parts cinfo_boolsU
  replace hi0 := hide hi0
  replace hz0 := hide hz0
  replace hz1 := hide hz1
  replace hz2 := hide hz2
  obtain ⟨j0, hj0, hy0, hy1, hy2⟩ := cinfo_parts cinfo_boolU
  replace hj0 := hide hj0
  replace hy0 := hide hy0
  replace hy1 := hide hy1
  replace hy2 := hide hy2
  obtain ⟨m0, hm0, hm1, hm2', hm3⟩ := cinfo_parts cinfo_PlaceU
  replace hm0 := hide hm0
  replace hm1 := hide hm1
  replace hm2' := hide hm2'
  replace hm3 := hide hm3
  obtain ⟨W, hW, hwW, hWs, hx⟩ := boxes1 w #[.string f.name, .slice A1 f.params.length k1, .int .i64 f.ret, .slice A2 n k2] 25
  have q3 : ∀ w', Below W.heap.size W w' → w'.cell? ⟨w.heap.size, 3, none⟩ = some (.slice A2 n k2) := hx 3 _ rfl
  clear hx
  have hws : w.heap.size ≤ W.heap.size := by omega
  replace hWs := hide hWs
  have hW2 := hide hW
  replace hwW := hide hwW
  have hself := Below.refl W.heap.size W
  have hmm := @run_makeMap Try.prog
  replace hs := hide hs
  clear hW
  go_enter Try.func71, Try.ntmps71
  go_upto_region 1 with (fail)
  rw [hW2.out]
  clear hW2
  go_wp2_with (at_make; refine wpList_make_full _ rfl (.tmp 18) (.tmp 18) _ rfl W.heap.size 63 i0 _ 1 Try.underlying101 hi0.out hz0.out hz1.out .i64 .i64 n n n rfl rfl rfl rfl ?c1 ?c2 (Nat.le_refl _) ?_)
  case c1 => rw [hz2.out]; omega
  case c2 => unfold maxLen; omega
  intro w5 hown5 hg5
  have hb5 := below_grownU hg5
  obtain ⟨M, hM⟩ : ∃ M, M = w5.heap.size := ⟨_, rfl⟩
  have hMV : Hid (MVal (w5.alloc (.map #[] 0)) M 0 fun _ => .slice none 0 0) := hide (hM ▸ MVal.made w5)
  have hTV : Hid (TabV (w5.alloc (.map #[] 0)) W.heap.size W.heap.size n len (fun _ => 0) (fun _ _ => false) 0) := hide ((TabV.start (made_oneU hown5)).below ((Below.refl _ _).alloc (Nat.le_refl _) _))
  have hMk : Hid (Mks (w5.alloc (.map #[] 0)) W.heap.size M 0 (fun _ => .slice none 0 0) (fun _ => []) (.slice none 0 0) []) := hide ⟨hMV.out, fun r => OwnPl.nil_, fun r r' _ => .inl rfl, OwnPl.nil_, fun r => .inl rfl⟩
  have hb6 := hb5.alloc hb5.size (.map #[] 0)
  have hMW : W.heap.size ≤ M := by rw [hM]; exact hb5.size
  have hP0 : Hid (UPre f.blocks 0 0 (fun _ _ => false) [] fun _ => []) := hide (UPre.start _)
  clear hown5 hg5 hMV
  go_upto_region 3 with (fail)
  rw [← hM]
  replace hM := hide hM
  clear hmm
  obtain ⟨w6, hw6⟩ : ∃ w6, w6 = w5.alloc (.map #[] 0) := ⟨_, rfl⟩
  rw [← hw6] at hTV hMk hb6 ⊢
  clear hw6 hb5
  go_wp2
  go_loopw [24, 5] (fun u24 u5 wr => ∃ (b : Nat) (gs : Nat → Nat) (T : Nat → Nat → Bool) (vals : Int → Value) (mk : Int → List (Nat × Nat)) (Wk : List (Nat × Nat)) (cnt : Nat), u24 = .int .i64 b ∧ b ≤ n ∧ Hid (TabV wr W.heap.size W.heap.size n len gs T b) ∧ Hid (Mks wr W.heap.size M cnt vals mk u5 Wk) ∧ Hid (UPre f.blocks b 0 T Wk mk) ∧ Hid (cnt ≤ (before f.blocks b 0).length) ∧ Below W.heap.size W wr) (fun u24 _ _ => n - (intOf u24).toNat)
  case atStart => exact ⟨0, _, _, _, _, _, _, rfl, Nat.zero_le _, hTV, hMk, hP0, hide (Nat.zero_le _), hb6⟩
  case round =>
    clear hTV hMk hb6 hP0 hself
    rename World => wr
    rename_i u5
    obtain ⟨b, gs, T, vals, mk, Wk, cnt, rfl, hb, hT, hMk, hP, hcnt, hbel⟩ := hrel
    by_cases hlt : b < n
    · have hbi : (b : Int) < (n : Int) := by omega
      obtain ⟨b1, o1, rfl, he1⟩ := gb.out (by rw [← hn.out]; omega)
      obtain ⟨x, hx⟩ := get_ex (l := f.blocks) (k := b) (by rw [← hn.out]; exact hlt)
      obtain ⟨d1, hr1, hd1⟩ := he1 b x hx.out
      obtain ⟨A3, c3, h3, hmx3, ga3⟩ := Rp.slice_open hr1
      cases h3
      replace ga3 := hide ga3
      have hd1' : ∀ w', Below W.heap.size W w' → w'.cell? ⟨b1, o1 + b, none⟩ = some (.slice A3 x.length c3) := fun w' h => hd1 w' (hwW.out.trans (h.mono hws))
      clear hd1 hr1 he1
      obtain ⟨hxl, hxa⟩ := hcode.out b x hx.out
      replace hxa := hide hxa
      have hlb := hide (hlenx.out b x hx.out)
      obtain ⟨V, hV, hwV, hVs, hvc⟩ := boxes1 wr #[.slice A3 x.length c3] 41
      have v0 : ∀ w', Below V.heap.size V w' → w'.cell? ⟨wr.heap.size, 0, none⟩ = some (.slice A3 x.length c3) := hvc 0 _ rfl
      have hbelV := hbel.trans (hwV.mono hbel.size)
      have hsV := hbelV.size
      have hTV := hide (hT.out.below hwV)
      have hMV := hide (hMk.out.below hwV)
      have hN7 : wr.heap.size < V.heap.size := by omega
      have hGw : W.heap.size < wr.heap.size := (hT.out.outer b).2.2.2
      replace hwV := hide hwV
      replace hVs := hide hVs
      replace hV := hide hV
      have hselfV := Below.refl V.heap.size V
      clear hvc hT hMk
      go_upto_region 7 with (fail)
      rw [hV.out]
      clear hV
      go_wp2_with (at_make; refine wpList_make_full _ rfl (.tmp 33) (.tmp 33) _ rfl V.heap.size 4 j0 _ 1 Try.underlying63 hj0.out hy0.out hy1.out .i64 .i64 x.length x.length x.length rfl rfl rfl rfl ?c1 ?c2 (Nat.le_refl _) ?_)
      case c1 => rw [hy2.out]; omega
      case c2 => unfold maxLen; omega
      intro w6 hown6 hg6
      have hb6 := below_grownU hg6
      have hT6 := hTV.out.below hb6
      have hM6 := hide (hMV.out.below hb6)
      have hR6 := made_oneU hown6
      have hs6 : V.heap.size < w6.heap.size := (row_lt hR6 rfl).2.1
      obtain ⟨fz6, hrz, -, -⟩ := hT6.outer b
      obtain ⟨u6, rz6⟩ := hrz hlt
      have hTb : Hid (∀ i, T b i = false) := hide (fun i => hP.out.rest b i (by unfold aheadP; omega))
      have hT7 : Hid (TabV (w6.setCell ⟨W.heap.size, b, none⟩ (.slice (some ⟨V.heap.size, 0, none⟩) x.length x.length)) W.heap.size W.heap.size n len (fun k => if k = b then V.heap.size else gs k) T (b + 1)) := hide (by
        rw [← hlb.out]
        refine hT6.add hlt ?_ fun k hk => by have := (hTV.out.lt hk).2; omega
        have e : ((List.range (len b)).map (T b)).map Value.bool = List.replicate x.length (.bool false) := by
          rw [hlb.out, List.map_map]
          refine List.ext_getElem? fun i => ?_
          rw [List.getElem?_map, List.getElem?_replicate]
          by_cases hi : i < x.length
          · rw [List.getElem?_range hi, if_pos hi]; simp [hTb.out]
          · rw [List.getElem?_eq_none (by simp; omega), if_neg hi]; rfl
        rw [e, hlb.out]
        exact row_mono hR6 hsV)
      obtain ⟨co, hco⟩ := hT6.is_outer
      have hM7 := hide (hM6.out.set_ (p := ⟨W.heap.size, b, none⟩) (u := .slice (some ⟨V.heap.size, 0, none⟩) x.length x.length) hco (by decide))
      have hbel7 := (hbelV.trans (hb6.mono hsV)).setCell (p := ⟨W.heap.size, b, none⟩) (Nat.le_refl _) (.slice (some ⟨V.heap.size, 0, none⟩) x.length x.length)
      have hv7 : (w6.setCell ⟨W.heap.size, b, none⟩ (.slice (some ⟨V.heap.size, 0, none⟩) x.length x.length)).cell? ⟨wr.heap.size, 0, none⟩ = some (.slice A3 x.length c3) := by
        rw [World.cell?_setCell_far _ _ _ _ (by show W.heap.size ≠ wr.heap.size; omega)]
        exact v0 w6 hb6
      clear hown6 hg6 hR6 hT6 hM6 hco hTV hMV
      go_upto_region 8 with (fail)
      obtain ⟨w7, hw7⟩ : ∃ w7, w6.setCell ⟨W.heap.size, b, none⟩ (.slice (some ⟨V.heap.size, 0, none⟩) x.length x.length) = w7 := ⟨_, rfl⟩
      rw [hw7] at hT7 hM7 hbel7 hv7 ⊢
      clear hw7 rz6 fz6 v0 hselfV hb6 hs6 hbelV hTb
      obtain ⟨gs2, hgs2⟩ : ∃ gs2, Hid (gs2 = fun k => if k = b then V.heap.size else gs k) := ⟨_, hide rfl⟩
      rw [← hgs2.out] at hT7
      go_wp2
      go_loopw [39, 5] (fun u39 u5 wr => ∃ (i : Nat) (T : Nat → Nat → Bool) (vals : Int → Value) (mk : Int → List (Nat × Nat)) (Wk : List (Nat × Nat)) (cnt : Nat), u39 = .int .i64 i ∧ i ≤ x.length ∧ Hid (TabV wr W.heap.size W.heap.size n len gs2 T (b + 1)) ∧ Hid (Mks wr W.heap.size M cnt vals mk u5 Wk) ∧ Hid (UPre f.blocks b i T Wk mk) ∧ Hid (cnt ≤ (before f.blocks b i).length) ∧ Below W.heap.size W wr) (fun u39 _ _ => x.length - (intOf u39).toNat)
      case atStart => exact ⟨0, _, _, _, _, _, rfl, Nat.zero_le _, hT7, hM7, hP, hcnt, hbel7⟩
      case round =>
        clear hT7 hM7 hP hcnt hbel7 hv7 hbel hN7 hGw hsV
        rename World => wr
        rename_i u5
        obtain ⟨i, T, vals, mk, Wk, cnt, rfl, hi, hT, hMk, hP, hcnt, hbel⟩ := hrel
        by_cases hlt2 : i < x.length
        · have hii : (i : Int) < (x.length : Int) := by omega
          obtain ⟨b3, o3, rfl, he3⟩ := ga3.out (by omega)
          obtain ⟨ins, hins⟩ := get_ex (l := x) (k := i) hlt2
          obtain ⟨_, _, ⟨a1, a2, rfl, ha, hto, hokop, hokr, -⟩, hc⟩ := he3 i ins hins.out
          obtain ⟨A5, k5, h5, hm5, -⟩ := Rp.slice_open ha
          obtain ⟨A6, k6, h6, hm6, -⟩ := Rp.slice1_open hto
          cases h5; cases h6
          have hreg9 := hide hokr
          obtain ⟨e0, e1, e2, e3, e4, e5, e6⟩ := (hc.later hwW.out hws).seven
          clear he3 ha hto hc hokr hokop
          have hat : Hid (insAt f.blocks b i = some ins) := hide (insAt_of hx.out hins.out)
          have hbefore : Hid ((before f.blocks b (i + 1)).length = (before f.blocks b i).length + 1 ∧ (before f.blocks b i).length < 2000000) := hide (by
            have h1 : (before f.blocks b (i + 1)).length = (before f.blocks b i).length + 1 := by rw [before_step hx.out hins.out]; simp
            obtain ⟨r, hr⟩ := @before_prefix f.blocks b (i + 1)
            rw [← hr, List.length_append] at hfl
            exact ⟨h1, by omega⟩)
          obtain ⟨Z, hZ, hwZ, hZs, hzc, hzd⟩ := boxes2 wr #[.int .i64 ins.op, .int .i64 ins.reg, .int .i64 ins.ty, .int .i64 ins.num, .int .i64 ins.flags, .slice A5 ins.args.length k5, .slice A6 ins.to.length k6] #[.int .i64 0, .int .i64 (b : Int), .int .i64 (i : Int)] 44 58
          have hbelZ : Below W.heap.size W Z := hbel.trans (hwZ.mono hbel.size)
          have hTZ := hide (hT.out.below hwZ)
          have hMZ := hide (hMk.out.below hwZ)
          have hselfZ := Below.refl Z.heap.size Z
          have y0 : ∀ w', Below Z.heap.size Z w' → w'.cell? ⟨wr.heap.size, 0, none⟩ = some (.int .i64 ins.op) := hzc 0 _ rfl
          have y1 : ∀ w', Below Z.heap.size Z w' → w'.cell? ⟨wr.heap.size, 1, none⟩ = some (.int .i64 ins.reg) := hzc 1 _ rfl
          have y2 : ∀ w', Below Z.heap.size Z w' → w'.cell? ⟨wr.heap.size, 2, none⟩ = some (.int .i64 ins.ty) := hzc 2 _ rfl
          have y3 : ∀ w', Below Z.heap.size Z w' → w'.cell? ⟨wr.heap.size, 3, none⟩ = some (.int .i64 ins.num) := hzc 3 _ rfl
          have y4 : ∀ w', Below Z.heap.size Z w' → w'.cell? ⟨wr.heap.size, 4, none⟩ = some (.int .i64 ins.flags) := hzc 4 _ rfl
          have y5 : ∀ w', Below Z.heap.size Z w' → w'.cell? ⟨wr.heap.size, 5, none⟩ = some (.slice A5 ins.args.length k5) := hzc 5 _ rfl
          have y6 : ∀ w', Below Z.heap.size Z w' → w'.cell? ⟨wr.heap.size, 6, none⟩ = some (.slice A6 ins.to.length k6) := hzc 6 _ rfl
          have hB9 : Hid (Z.heap[wr.heap.size]? = some (.cells #[.int .i64 ins.op, .int .i64 ins.reg, .int .i64 ins.ty, .int .i64 ins.num, .int .i64 ins.flags, .slice A5 ins.args.length k5, .slice A6 ins.to.length k6] 44 (0, 0))) := hide (by rw [← hZ]; exact box_under _ _ _)
          have hB10 : Hid (Z.heap[wr.heap.size + 1]? = some (.cells #[.int .i64 0, .int .i64 (b : Int), .int .i64 (i : Int)] 58 (0, 0))) := hide (by rw [← hZ]; have := box_top (wr.alloc (.cells #[.int .i64 ins.op, .int .i64 ins.reg, .int .i64 ins.ty, .int .i64 ins.num, .int .i64 ins.flags, .slice A5 ins.args.length k5, .slice A6 ins.to.length k6] 44)) (.cells #[.int .i64 0, .int .i64 (b : Int), .int .i64 (i : Int)] 58); simpa using this)
          have hrows : Hid ((∀ r k, (vals r).ownBlock = some k → k < wr.heap.size) ∧ ∀ k, u5.ownBlock = some k → k < wr.heap.size) := hide ⟨fun r k h => (row_lt (hMk.out.rows r) h).2.1, fun k h => (row_lt hMk.out.work h).2.1⟩
          obtain ⟨N9, hN9⟩ : ∃ N9, N9 = wr.heap.size := ⟨_, rfl⟩
          rw [← hN9] at y0 y1 y2 y3 y4 y5 y6 hB9 hB10 hrows
          replace hwZ := hide hwZ
          have hZN : N9 + 1 < Z.heap.size := by omega
          replace hZs := hide hZs
          replace hZ := hide hZ
          obtain ⟨R, hR⟩ : ∃ R, Hid (R = iresult ins.op ins.ty) := ⟨_, hide rfl⟩
          have cRes : Hid (∀ w', Calls Try.prog 73 #[ins.v (.slice A5 ins.args.length k5) (.slice A6 ins.to.length k6)] w' fun e w'' => e = .returned (.int .i64 R) ∧ Below w'.heap.size w' w'') := hide (fun w' => by
            have := result_any ins (.slice A5 ins.args.length k5) (.slice A6 ins.to.length k6) w'
            rwa [← hR.out] at this)
          clear hzc hzd hT hMk
          go_upto_region 12 with (fail)
          rw [hZ.out]
          clear hZ
          rw [← hN9]
          replace hN9 := hide hN9
          go_wp2_with (fail)
          refine (cRes.out _).mono ?_
          rintro e w3 ⟨rfl, hb3⟩
          have hbel3 := hbelZ.trans (hb3.mono hbelZ.size)
          have hT3 := hide (hTZ.out.below hb3)
          have hM3 := hide (hMZ.out.below hb3)
          have hC9 := hide ((hb3.block N9 (by omega)).trans hB9.out)
          have hC10 := hide ((hb3.block (N9 + 1) hZN).trans hB10.out)
          have hs3 := hb3.size
          clear hTZ hMZ hB9 hB10 cRes hb3 hbelZ y0 y1 y2 y3 y4 y5 y6 hselfZ
          go_upto_if 49 with (fail)
          go_cut [39] (fun s wx => s = .int .i64 (i : Int) ∧ ∃ (vals' : Int → Value) (cnt' : Nat), Hid (Mks wx W.heap.size M cnt' vals' (addMk mk ins b i) u5 Wk) ∧ Hid (cnt' ≤ cnt + 1) ∧ Hid (TabV wx W.heap.size W.heap.size n len gs2 T (b + 1)) ∧ Hid (wx.heap[N9]? = some (.cells #[.int .i64 ins.op, .int .i64 ins.reg, .int .i64 ins.ty, .int .i64 ins.num, .int .i64 ins.flags, .slice A5 ins.args.length k5, .slice A6 ins.to.length k6] 44 (0, 0))) ∧ Hid (wx.heap[N9 + 1]? = some (.cells #[.int .i64 0, .int .i64 (b : Int), .int .i64 (i : Int)] 58 (0, 0))) ∧ Below W.heap.size W wx)
          case first =>
            by_cases hR0 : R = 0
            · have hRb : (R != 0) = false := by simp [hR0]
              have hadd : Hid (∀ r, mk r = addMk mk ins b i r) := hide (fun r => by unfold addMk; rw [if_neg (fun h => h.1 (by rw [← hR.out]; exact hR0))])
              replace hR0 := hide hR0
              go_wp2_with (fail)
              go_meet
              exact ⟨rfl, vals, cnt, hide (hM3.out.congr (fun _ => rfl) hadd.out), hide (Nat.le_succ _), hT3, hC9, hC10, hbel3⟩
            · have hRb : (R != 0) = true := by simp [hR0]
              have hadd : Hid (∀ r, (if r = ins.reg then mk ins.reg ++ [(b, i)] else mk r) = addMk mk ins b i r) := hide (fun r => by
                unfold addMk
                by_cases e : r = ins.reg
                · subst e; rw [if_pos rfl, if_pos ⟨fun h => hR0 (by rw [hR.out]; exact h), rfl⟩]
                · rw [if_neg e, if_neg (fun h => e h.2.symm)])
              have hz := zero_places
              obtain ⟨-, p1, -⟩ := seven_boxU hC9.out
              obtain ⟨r0, r1, r2⟩ := three_boxU hC10.out
              have hl1 : (Instr.lookup 123 (.map (some M)) (.int .i64 ins.reg) false).run Try.prog w3.drew = .ok (vals ins.reg) w3.drew := MVal.look (hM3.out.below (w' := w3.drew) ((Below.refl _ _).drew)).map Try.underlying123 (zero_places _) hreg9.out
              have hl2 : (Instr.lookup 123 (.map (some M)) (.int .i64 ins.reg) false).run Try.prog (w3.alloc (.cells #[.int .i64 0, .int .i64 (b : Int), .int .i64 (i : Int)] 58)).drew = .ok (vals ins.reg) (w3.alloc (.cells #[.int .i64 0, .int .i64 (b : Int), .int .i64 (i : Int)] 58)).drew := MVal.look (hM3.out.below (w' := (w3.alloc _).drew) (((Below.refl _ _).alloc (Nat.le_refl _) _).drew)).map Try.underlying123 (zero_places _) hreg9.out
              have hml : (mk ins.reg).length ≤ 2000000 := by have := hP.out.mk_len ins.reg; have := hbefore.out.2; omega
              obtain ⟨nm, hnm⟩ : ∃ nm, Hid (nm = (mk ins.reg).length) := ⟨_, hide rfl⟩
              rw [← hnm.out] at hml
              have hN93 : N9 + 1 < w3.heap.size := by omega
              replace hR0 := hide hR0
              go_upto_region 13 with (fail)
              have hown9 : Hid ((w3.drew.alloc (.cells #[.int .i64 0, .int .i64 (b : Int), .int .i64 (i : Int)] 58)).ownsRow W.heap.size 58 3 (vals ins.reg) nm ((mk ins.reg).flatMap plc)) := hide (by rw [hnm.out]; exact (hM3.out.below (w' := w3.drew.alloc _) ((Below.refl _ _).drew.alloc (Nat.le_refl _) _)).rows ins.reg)
              have hown8 : Hid (w3.drew.ownsRow W.heap.size 58 3 (vals ins.reg) nm ((mk ins.reg).flatMap plc)) := hide (by rw [hnm.out]; exact (hM3.out.below (w' := w3.drew) ((Below.refl _ _).drew)).rows ins.reg)
              have hcn : cnt < maxLen := by have := hcnt.out; have := hbefore.out.2; unfold maxLen; omega
              have hW3 := hbel3.size
              go_region_held3 (fun w' => w'.cell? ⟨N9, 1, none⟩ = some (.int .i64 ins.reg) ∧ w'.cell? ⟨N9 + 1, 0, none⟩ = some (.int .i64 0) ∧ w'.cell? ⟨N9 + 1, 1, none⟩ = some (.int .i64 (b : Int)) ∧ w'.cell? ⟨N9 + 1, 2, none⟩ = some (.int .i64 (i : Int))) (go_keep)
                ((refine step_append_lies _ (by rfl) (.tmp 56) (.tmp 58) 85 (by rfl) W.heap.size 58 m0 (.agg #[.int .i64 0, .int .i64 0, .int .i64 0]) 3 24 Try.underlying85 hm0.out hm1.out hm2'.out hm3.out (by rfl) (by omega) (vals ins.reg) nm ((mk ins.reg).flatMap plc) (by rfl) (by exact hown9.out) ⟨w3.heap.size, 0, none⟩ 1 1 [.int .i64 0, .int .i64 (b : Int), .int .i64 (i : Int)] (by rfl) (by rfl) (by exact World.news_of_block (cs := #[.int .i64 0, .int .i64 (b : Int), .int .i64 (i : Int)]) (t := 58) (fr := (0, 0)) (heap_alloc_new w3.drew _)) (by simp [Value.oneCell']) (by omega) (by unfold maxLen; omega) (by omega) (by simp; omega) (w3.heap.size + 1) (by simp) ?_; intro gq cq w1 hown1 hg1 hgq hlt1; obtain ⟨w2, hrun, hMk2, hon2, hcell2⟩ := Mks.grow (p := (b, i)) hM3.out ((Below.refl _ _).drew.alloc (Nat.le_refl _) _) hg1 (hgq.imp id (fun h => by simp; omega)) (by rw [← hnm.out]; exact hown1) Try.underlying123 hcn hreg9.out; rw [← hnm.out] at hrun; have k9 : w1.heap[N9]? = w3.heap[N9]? := (hg1.block N9 (by simp; omega) (fun e => by have := hrows.out.1 ins.reg N9 e.symm; omega)).trans (Below.heap_alloc w3.drew _ N9 (by show N9 < w3.heap.size; omega)); have k10 : w1.heap[N9 + 1]? = w3.heap[N9 + 1]? := (hg1.block (N9 + 1) (by simp; omega) (fun e => by have := hrows.out.1 ins.reg (N9 + 1) e.symm; omega)).trans (Below.heap_alloc w3.drew _ (N9 + 1) hN93); have k9' := k9.trans hC9.out; have k10' := k10.trans hC10.out; have l9 := (hcell2 N9 _ _ _ k9').trans k9'; have l10 := (hcell2 (N9 + 1) _ _ _ k10').trans k10'; obtain ⟨-, p1', -⟩ := seven_boxU k9'; obtain ⟨r0', r1', r2'⟩ := three_boxU k10'; obtain ⟨-, p1'', -⟩ := seven_boxU l9; obtain ⟨r0'', r1'', r2''⟩ := three_boxU l10; have hT2 := hide (((hT3.out.below (w' := w3.drew) ((Below.refl _ _).drew)).but (But.grown hown8.out hg1)).cellsOnly hcell2); have hbel1 : Below W.heap.size W w1 := ((hbel3.drew).alloc (by simp; omega) _).grown hg1 (by simp; omega) (fun k hk => (row_lt hown8.out hk).1); have hbel2 := hide (hbel1.trans (hon2.to_below (B' := W.heap.size) (fun k hk => by have e : k = M := hk; omega) hbel1.size)); have l9h := hide l9; have l10h := hide l10; have hMk2h := hide hMk2; clear k9 k10 k9' k10' l9 l10 hMk2 hon2 hcell2 hbel1 hown1 hg1 hgq hlt1))
              all_goals go_wp2_with (fail)
              all_goals go_meet
              all_goals exact ⟨rfl, _, cnt + 1, hide (hMk2h.out.congr (fun _ => rfl) hadd.out), hide (Nat.le_refl _), hT2, l9h, l10h, hbel2.out⟩
          case rest =>
            rename World => wy
            obtain ⟨rfl, vals2, cnt2, hMk, hcnt2, hT, h9, h10, hbel⟩ := hcut
            clear hT3 hM3 hC9 hC10 hbel3 hs3
            obtain ⟨id, hid⟩ : ∃ id : Bool, Hid (iidle ins.op = id) := ⟨_, hide rfl⟩
            have cId : Hid (∀ w', Calls Try.prog 94 #[.int .i64 ins.op] w' fun e w'' => e = .returned (.bool id) ∧ w' = w'') := hide (fun w' => by
              have := idle_any ins.op w'
              rwa [hid.out] at this)
            have hnx := hP.out.next hat.out
            rw [hid.out] at hnx
            obtain ⟨p0, -⟩ := seven_boxU h9.out
            have hcnt3 : Hid (cnt2 ≤ (before f.blocks b (i + 1)).length) := hide (by have := hcnt.out; have := hcnt2.out; have := hbefore.out.1; omega)
            cases id with
            | true =>
              rw [if_neg (by simp), if_neg (by simp)] at hnx
              replace hnx := hide hnx
              go_wp2_with (go_at_call 94; refine (cId.out _).mono ?_; rintro e w' ⟨rfl, rfl⟩)
              go_roundw
              case rel => exact ⟨i + 1, T, vals2, _, Wk, cnt2, by go_num, hlt2, hT, hMk, hnx, hcnt3, hbel⟩
              case measure => simp [intOf]; omega
            | false =>
              rw [if_pos rfl, if_pos rfl] at hnx
              replace hnx := hide hnx
              have hrow := hT.out.row (by omega) (show b < b + 1 by omega)
              have hb1 : b < b + 1 := by omega
              have hlx : i < len b := by rw [hlb.out]; exact hlt2
              obtain ⟨rc, fc⟩ := hT.out.cell hb1 hlx
              rw [hlb.out] at hrow
              have hTn := hide (hT.out.set_ hb1 hlx)
              obtain ⟨cb, hcb⟩ := hT.out.is_bool hb1
              have hMn := hide (hMk.out.set_ (p := ⟨gs2 b, i, none⟩) (u := .bool true) hcb (by decide))
              have hbn := hbel.setCell (p := ⟨gs2 b, i, none⟩) (hT.out.lt hb1).1 (.bool true)
              have h10n := hide ((setCell_heap_ne (p := ⟨gs2 b, i, none⟩) (u := .bool true) h10.out hcb (by decide)).trans h10.out)
              have hwl : Wk.length ≤ 2000000 := by have := hP.out.work_len; have := hbefore.out.2; omega
              replace hcb := hide hcb
              go_upto_region 16 with (go_at_call 94; refine (cId.out _).mono ?_; rintro e w' ⟨rfl, rfl⟩)
              obtain ⟨wz, hwz⟩ : ∃ wz, wy.setCell ⟨gs2 b, i, none⟩ (.bool true) = wz := ⟨_, rfl⟩
              rw [hwz] at hTn hMn hbn h10n ⊢
              clear hwz rc fc hrow
              obtain ⟨r0, r1, r2⟩ := three_boxU h10n.out
              obtain ⟨nW, hnW⟩ : ∃ nW, Hid (nW = Wk.length) := ⟨_, hide rfl⟩
              rw [← hnW.out] at hwl
              have hownW : Hid (wz.ownsRow W.heap.size 58 3 u5 nW (Wk.flatMap plc)) := hide (by rw [hnW.out]; exact hMn.out.work)
              have hWz := hbn.size
              go_wp2_with (at_builtin
                           refine wpList_append_lies _ rfl (.tmp 70) (.tmp 72) _ rfl W.heap.size 58 m0 _ 3 24 Try.underlying85 hm0.out hm1.out hm2'.out hm3.out rfl (by omega) u5 nW (Wk.flatMap plc) rfl (hownW.out.alloc _) ⟨wz.heap.size, 0, none⟩ 1 1 [.int .i64 0, .int .i64 (b : Int), .int .i64 (i : Int)] rfl rfl ?c1 ?c2 (by omega) ?c3 ?c4 ?c5 (wz.heap.size + 1) ?c6 ?_
                           case c1 => exact World.news_of_block (cs := #[.int .i64 0, .int .i64 (b : Int), .int .i64 (i : Int)]) (t := 58) (fr := (0, 0)) (heap_alloc_new wz _)
                           case c2 => simp [Value.oneCell']
                           case c3 => unfold maxLen; omega
                           case c4 => omega
                           case c5 => simp; omega
                           case c6 => simp
                           intro gq cq w1 hown1 hg1 hgq hlt1
                           have hbw1 : Below W.heap.size W w1 := (hbn.alloc hWz _).grown hg1 (by simp; omega) (fun k hk => (row_lt hownW.out hk).1)
                           have hMp := hide (Mks.push (p := (b, i)) hMn.out ((Below.refl _ _).alloc (Nat.le_refl _) _) hg1 (hgq.imp id (fun h => by simp; omega)) (by rw [← hnW.out]; exact hown1))
                           rw [← hnW.out] at hMp
                           have hTp := hide (hTn.out.but (But.grown hownW.out hg1))
                           replace hown1 := hide hown1
                           replace hg1 := hide hg1
                           replace hgq := hide hgq
                           replace hlt1 := hide hlt1)
              go_roundw
              case rel => exact ⟨i + 1, _, vals2, _, _, cnt2, by go_num, hlt2, hTp, hMp, hnx, hcnt3, hbw1⟩
              case measure => simp [intOf]; omega
        · obtain rfl : i = x.length := by omega
          have hP2 := hide (hP.out.row hx.out rfl)
          have hcnt2 : Hid (cnt ≤ (before f.blocks (b + 1) 0).length) := hide (by rw [← before_next hx.out]; exact hcnt.out)
          go_wp2
          go_roundw
          case rel => exact ⟨b + 1, gs2, T, vals, mk, Wk, cnt, by go_num, hlt, hT, hMk, hP2, hcnt2, hbel⟩
          case measure => simp [intOf]; omega
    · obtain rfl : b = n := by omega
      have hend : UInv f.blocks T Wk (fun _ _ => False) ∧ ∀ r p, p ∈ mk r ↔ ∃ x, insAt f.blocks p.1 p.2 = some x ∧ iresult x.op x.ty ≠ 0 ∧ x.reg = r := by
        have h := hP.out
        rw [hn.out] at h
        exact h.end_
      obtain ⟨hI0, hmk0⟩ := hend
      have hI : Hid (UInv f.blocks T Wk fun _ _ => False) := hide hI0
      have hmk : Hid (∀ r p, p ∈ mk r ↔ ∃ x, insAt f.blocks p.1 p.2 = some x ∧ iresult x.op x.ty ≠ 0 ∧ x.reg = r) := hide hmk0
      have hbl : (before f.blocks b 0).length ≤ 2000000 := by rw [hn.out, before_end]; exact hfl
      have hroom : Hid (unm len T b + Wk.length ≤ 4000000) := hide (by
        have h1 := hP.out.work_len
        have h2 := unm_start (bs := f.blocks) (n := b) (by rw [hn.out]; exact Nat.le_refl _) T
        rw [← hlen.out] at h2
        omega)
      have hmkl : Hid (∀ r, (mk r).length ≤ 2000000) := hide (fun r => Nat.le_trans (hP.out.mk_len r) hbl)
      clear hI0 hmk0 hP hcnt
      go_wp2
      go_loopg [5] (unm len T b + Wk.length) (fun k u5 wr => ∃ (T : Nat → Nat → Bool) (Wk : List (Nat × Nat)), unm len T b + Wk.length = k ∧ Hid (TabV wr W.heap.size W.heap.size b len gs T b) ∧ Hid (Mks wr W.heap.size M cnt vals mk u5 Wk) ∧ Hid (UInv f.blocks T Wk fun _ _ => False) ∧ Hid (unm len T b + Wk.length ≤ 4000000) ∧ Below W.heap.size W wr)
      case atStart => exact ⟨T, Wk, rfl, hT, hMk, hI, hroom, hbel⟩
      case round =>
        clear hT hMk hI hroom hbel
        rename World => wr
        rename_i u5
        obtain ⟨T, Wk, hmu, hT, hMk, hI, hroom, hbel⟩ := hrel
        replace hmu := hide hmu
        rcases List.eq_nil_or_concat Wk with hWk | ⟨W0, p, hWk⟩
        · subst hWk
          obtain ⟨A5, C5, rfl⟩ := row_form hMk.out.work
          have hfin : Hid (TabV wr w.heap.size W.heap.size f.blocks.length (fun b => (f.blocks.getD b []).length) gs T f.blocks.length) := hide (by
            have h := hT.out.mono hws
            rw [hlen.out, hn.out] at h
            exact h)
          have hz0 : ¬ ((([] : List (Nat × Nat)).length : Int) > 0) := by simp
          go_wp2
          go_ret
          exact ⟨W.heap.size, gs, T, by rw [← hn.out]; first | done | rfl, hfin.out, fun b i x hx => hI.out.end_ hx, hwW.out.trans (hbel.mono hws)⟩
        · rw [List.concat_eq_append] at hWk
          subst hWk
          obtain ⟨pb, pi⟩ := p
          rcases hMk.out.work.form with ⟨-, h0⟩ | ⟨g, C, rfl, hgB, hgl⟩
          · simp at h0
          obtain ⟨⟨ins, hat⟩, hTp⟩ := hI.out.work (pb, pi) (by simp)
          replace hat : Hid (insAt f.blocks pb pi = some ins) := hide hat
          have hneed : Hid (Need f.blocks.flatten ins) := hide (hI.out.sound pb pi ins hat.out hTp)
          obtain ⟨l, hl, hli⟩ := insAt_row hat.out
          have hpop := hide hI.out.pop
          obtain ⟨m, hm⟩ : ∃ m, Hid (m = W0.length) := ⟨_, hide rfl⟩
          have hlen1 : (W0 ++ [(pb, pi)]).length = m + 1 := by rw [List.length_append, hm.out]; rfl
          have hMp : Hid (Mks wr W.heap.size M cnt vals mk (.slice (some ⟨g, 0, none⟩) m C) W0) := hide (by
            have h := hMk.out
            rw [hlen1, hm.out] at h
            rw [hm.out]
            exact h.pop)
          obtain ⟨r0, r1, r2⟩ := hMk.out.work.cells (k := m) (p := (pb, pi)) (by rw [hm.out]; simp)
          have hcap : m + 1 ≤ C ∧ C ≤ 9223372036854775807 := by
            rcases hMk.out.work.2 with ⟨e, -⟩ | ⟨g', c', cur, e, -, -, hnc, hcm, -⟩
            · cases e
            · simp only [Value.slice.injEq, Option.some.injEq, Addr.mk.injEq, and_true, true_and] at e
              obtain ⟨-, -, rfl⟩ := e
              rw [hlen1] at hnc
              unfold maxLen at hcm
              exact ⟨hnc, by omega⟩
          obtain ⟨hcap1, hcap2⟩ := hcap
          rw [hlen1] at hmu hroom ⊢
          have e1 : ((m + 1 : Nat) : Int) > 0 := by omega
          have e2 : ((m + 1 : Nat) : Int) - 1 = (m : Int) := by omega
          have hpb : pb < b := by have := (List.getElem?_eq_some_iff.1 hl).1; rw [hn.out]; exact this
          have hpi : pi < l.length := (List.getElem?_eq_some_iff.1 hli).1
          have hpb2 : (pb : Int) < (b : Int) := by omega
          have hpi2 : (pi : Int) < (l.length : Int) := by omega
          obtain ⟨b1, o1, rfl, he1⟩ := gb.out (by rw [← hn.out]; omega)
          obtain ⟨d1, hr1, hd1⟩ := he1 pb l hl
          obtain ⟨A3, c3, h3, hm3', ga3⟩ := Rp.slice_open hr1
          cases h3
          obtain ⟨b3, o3, rfl, he3⟩ := ga3 (by omega)
          obtain ⟨_, _, ⟨a1, a2, rfl, ha, hto, -⟩, hc⟩ := he3 pi ins hli
          obtain ⟨A5, k5, h5, hm5, ga5⟩ := Rp.slice_open ha
          obtain ⟨A6, k6, h6, hm6, -⟩ := Rp.slice1_open hto
          cases h5; cases h6
          replace ga5 := hide ga5
          have hd1' : ∀ w', Below W.heap.size W w' → w'.cell? ⟨b1, o1 + pb, none⟩ = some (.slice (some ⟨b3, o3, none⟩) l.length c3) := fun w' h => hd1 w' (hwW.out.trans (h.mono hws))
          obtain ⟨-, -, -, -, -, x5, -⟩ := (hc.later hwW.out hws).seven
          obtain ⟨na, hna⟩ : ∃ na, Hid (na = ins.args.length) := ⟨_, hide rfl⟩
          rw [← hna.out] at x5 hm5
          have hnal : na ≤ 2000000 := by rw [hna.out]; exact (hcode.out pb l hl).2 ins (List.mem_of_getElem? hli)
          clear he1 hd1 hr1 ga3 he3 ha hto hc
          obtain ⟨V, hV, hwV, hVs, hvc⟩ := boxes1 wr #[.int .i64 0, .int .i64 (pb : Int), .int .i64 (pi : Int)] 58
          have hbelV := hbel.trans (hwV.mono hbel.size)
          have hTV := hide (hT.out.below hwV)
          have hMV := hide (hMp.out.below hwV)
          have v0 : ∀ w', Below V.heap.size V w' → w'.cell? ⟨wr.heap.size, 0, none⟩ = some (.int .i64 0) := hvc 0 _ rfl
          have v1 : ∀ w', Below V.heap.size V w' → w'.cell? ⟨wr.heap.size, 1, none⟩ = some (.int .i64 (pb : Int)) := hvc 1 _ rfl
          have v2 : ∀ w', Below V.heap.size V w' → w'.cell? ⟨wr.heap.size, 2, none⟩ = some (.int .i64 (pi : Int)) := hvc 2 _ rfl
          have v1' := v1 V (Below.refl _ _)
          have v2' := v2 V (Below.refl _ _)
          have q3' := q3 V hbelV
          have hd2 := hd1' V hbelV
          have x5' := x5 V hbelV
          replace hwV := hide hwV
          replace hVs := hide hVs
          replace hV := hide hV
          replace hl := hide hl
          replace hli := hide hli
          replace hTp := hide hTp
          replace hlen1 := hide hlen1
          clear hvc hT hMk hMp hbel hI hd1' x5 v0 v1 v2
          go_upto_region 22 with (fail)
          rw [hV.out]
          clear hV r0 r1 r2
          go_quiet (fail)
          have hbw : Below W.heap.size W (V.drewN nq) := below_drewN hbelV _
          have hTw := hide (hTV.out.below (bkU nq))
          have hMw := hide (hMV.out.below (bkU nq))
          obtain ⟨wq, hwq⟩ : ∃ wq, wq = V.drewN nq := ⟨_, rfl⟩
          rw [← hwq] at hbw hTw hMw ⊢
          clear hwq v1' v2' q3' hd2 x5' hTV hMV hbelV e1 e2 hcap1
          have hcl0 : Hid (∀ (k' : Nat) v, k' < 0 → ins.args[k']? = some v → v.kind = 1 → ∀ c j y, insAt f.blocks c j = some y → iresult y.op y.ty ≠ 0 → y.reg = v.num → T c j = true) := hide (fun k' v h => by omega)
          have hmu4 : Hid (unm len T b + W0.length + 1 = gk) := hide (by rw [← hmu.out, hm.out]; omega)
          go_wp2
          go_loopw [103, 5] (fun u103 u5 wx => ∃ (k : Nat) (T2 : Nat → Nat → Bool) (W2 : List (Nat × Nat)), u103 = .int .i64 k ∧ k ≤ na ∧ Hid (TabV wx W.heap.size W.heap.size b len gs T2 b) ∧ Hid (Mks wx W.heap.size M cnt vals mk u5 W2) ∧ Hid (UInv f.blocks T2 W2 fun c j => c = pb ∧ j = pi) ∧ Hid (∀ (k' : Nat) v, k' < k → ins.args[k']? = some v → v.kind = 1 → ∀ c j y, insAt f.blocks c j = some y → iresult y.op y.ty ≠ 0 → y.reg = v.num → T2 c j = true) ∧ Hid (unm len T2 b + W2.length + 1 = gk) ∧ Below W.heap.size W wx) (fun u103 _ _ => na - (intOf u103).toNat)
          case atStart => exact ⟨0, T, W0, rfl, Nat.zero_le _, hTw, hMw, hpop, hcl0, hmu4, hbw⟩
          case round =>
            clear hbw hTw hMw hcl0 hmu4 hpop
            rename World => wr
            rename_i u5
            obtain ⟨k, T2, W2, rfl, hk, hT, hMk, hI, hcl, hmu2, hbel⟩ := hrel
            by_cases hlt3 : k < na
            · have hki : (k : Int) < (na : Int) := by omega
              obtain ⟨v, hv⟩ := get_ex (l := ins.args) (k := k) (by rw [← hna.out]; exact hlt3)
              obtain ⟨b5, o5, rfl, he5⟩ := ga5.out (by rw [← hna.out]; omega)
              obtain ⟨_, _, ⟨rfl, hIv⟩, hav⟩ := he5 k v hv.out
              obtain ⟨p0, p1, p2⟩ := (hav.later hwW.out hws).three
              replace hIv := hide hIv
              obtain ⟨Z, hZ, hwZ, hZs, hzc⟩ := boxes1 wr #[.int .i64 v.kind, .int .i64 v.num, .int .u64 v.bits] 28
              have hbelZ := hbel.trans (hwZ.mono hbel.size)
              have hTZ := hide (hT.out.below hwZ)
              have hMZ := hide (hMk.out.below hwZ)
              have z0 := hzc 0 _ rfl Z (Below.refl _ _)
              have z1 := hzc 1 _ rfl Z (Below.refl _ _)
              replace hwZ := hide hwZ
              replace hZs := hide hZs
              replace hZ := hide hZ
              clear he5 hav hzc hT hMk
              by_cases hk1 : v.kind = 1
              · have hk2 : (v.kind != 1) = false := by rw [hk1]; rfl
                obtain ⟨A7, C7, hvf⟩ := row_form (hMZ.out.rows v.num)
                have hlk := hMZ.out.map.look Try.underlying123 (zero_places Z) hIv.out.2
                rw [hvf] at hlk
                obtain ⟨L, hL⟩ : ∃ L, Hid (L = mk v.num) := ⟨_, hide rfl⟩
                obtain ⟨nl, hnl⟩ : ∃ nl, Hid (nl = L.length) := ⟨_, hide rfl⟩
                rw [← hL.out, ← hnl.out] at hlk hvf
                have hLl : nl ≤ 2000000 := by rw [hnl.out, hL.out]; exact hmkl.out v.num
                replace hvf := hide hvf
                replace hk1 := hide hk1
                have hmo : Hid (∀ c j, T2 c j = true → T2 c j = true) := hide (fun _ _ h => h)
                have hdn : Hid (∀ (m' : Nat) q, m' < 0 → L[m']? = some q → T2 q.1 q.2 = true) := hide (fun m' q h => by omega)
                go_upto_region 25 with (fail)
                rw [hZ.out]
                clear hZ
                go_wp2
                go_loopw [115, 5] (fun u115 u5 wx => ∃ (m : Nat) (T3 : Nat → Nat → Bool) (W3 : List (Nat × Nat)), u115 = .int .i64 m ∧ m ≤ nl ∧ Hid (TabV wx W.heap.size W.heap.size b len gs T3 b) ∧ Hid (Mks wx W.heap.size M cnt vals mk u5 W3) ∧ Hid (UInv f.blocks T3 W3 fun c j => c = pb ∧ j = pi) ∧ Hid (∀ c j, T2 c j = true → T3 c j = true) ∧ Hid (∀ (m' : Nat) q, m' < m → L[m']? = some q → T3 q.1 q.2 = true) ∧ Hid (unm len T3 b + W3.length + 1 = gk) ∧ Below W.heap.size W wx) (fun u115 _ _ => nl - (intOf u115).toNat)
                case atStart => exact ⟨0, T2, W2, rfl, Nat.zero_le _, hTZ, hMZ, hI, hmo, hdn, hmu2, hbelZ⟩
                case round =>
                  clear hTZ hMZ hI hmo hdn hmu2 hbelZ hlk z0 z1 p0 p1 p2
                  rename World => wr
                  rename_i u5
                  obtain ⟨m5, T3, W3, rfl, hm5', hT, hMk, hI, hmo, hdn, hmu3, hbel⟩ := hrel
                  by_cases hlt5 : m5 < nl
                  · have hmi : (m5 : Int) < (nl : Int) := by omega
                    obtain ⟨q, hq⟩ := get_ex (l := L) (k := m5) (by rw [← hnl.out]; exact hlt5)
                    obtain ⟨qb, qi⟩ := q
                    obtain ⟨y, hy, hyr, hyg⟩ := (hmk.out v.num (qb, qi)).1 (by rw [← hL.out]; exact List.mem_of_getElem? hq.out)
                    replace hy : Hid (insAt f.blocks qb qi = some y) := hide hy
                    replace hyr := hide hyr
                    replace hyg := hide hyg
                    obtain ⟨ly, hly, hlyi⟩ := insAt_row hy.out
                    have hqb : qb < b := by have := (List.getElem?_eq_some_iff.1 hly).1; rw [hn.out]; exact this
                    have hqi : qi < len qb := by rw [hlenx.out qb ly hly]; exact (List.getElem?_eq_some_iff.1 hlyi).1
                    have hqb2 : (qb : Int) < (b : Int) := by omega
                    have hqi2 : (qi : Int) < (len qb : Int) := by omega
                    obtain ⟨g7, hg7⟩ : ∃ g7, A7 = some ⟨g7, 0, none⟩ := by
                      rcases (hMk.out.rows v.num).form with ⟨e, h0⟩ | ⟨g7, c7, e, -⟩
                      · rw [← hL.out] at h0; rw [h0] at hq; have := hq.out; simp at this
                      · have := hvf.out.symm.trans e; injection this with h1; exact ⟨g7, h1⟩
                    subst hg7
                    have hrow7 : OwnPl wr W.heap.size (.slice (some ⟨g7, 0, none⟩) L.length C7) L := by
                      have := hMk.out.rows v.num
                      rw [hvf.out, ← hL.out, hnl.out] at this
                      exact this
                    obtain ⟨s0, s1, s2⟩ := hrow7.cells (k := m5) hq.out
                    obtain ⟨Y, hY, hwY, hYs, hyc⟩ := boxes1 wr #[.int .i64 0, .int .i64 (qb : Int), .int .i64 (qi : Int)] 58
                    have hbelY := hbel.trans (hwY.mono hbel.size)
                    have hTY := hide (hT.out.below hwY)
                    have hMY := hide (hMk.out.below hwY)
                    have hBY : Hid (Y.heap[wr.heap.size]? = some (.cells #[.int .i64 0, .int .i64 (qb : Int), .int .i64 (qi : Int)] 58 (0, 0))) := hide (by rw [← hY]; exact box_top _ _)
                    have z0 := hyc 0 _ rfl Y (Below.refl _ _)
                    have z1 := hyc 1 _ rfl Y (Below.refl _ _)
                    have z2 := hyc 2 _ rfl Y (Below.refl _ _)
                    have t0 := hTY.out.row (Nat.le_refl _) hqb
                    obtain ⟨t1, f1⟩ := hTY.out.cell hqb hqi
                    obtain ⟨N15, hN15⟩ : ∃ N, N = wr.heap.size := ⟨_, rfl⟩
                    rw [← hN15] at z0 z1 z2 hBY
                    have hrows : Hid (∀ k, u5.ownBlock = some k → k < N15) := hide (fun k h => by rw [hN15]; exact (row_lt hMk.out.work h).2.1)
                    have hN15Y : N15 < Y.heap.size := by omega
                    replace hwY := hide hwY
                    replace hYs := hide hYs
                    replace hY := hide hY
                    replace hly := hide hly
                    replace hlyi := hide hlyi
                    replace hrow7 := hide hrow7
                    clear hyc hT hMk hbel
                    cases hTv : T3 qb qi with
                    | true =>
                      rw [hTv] at t1
                      have hdn2 : Hid (∀ (m' : Nat) q, m' < m5 + 1 → L[m']? = some q → T3 q.1 q.2 = true) := hide (fun m' q' h1 h2 => by
                        by_cases e : m' = m5
                        · subst e; rw [hq.out] at h2; cases h2; exact hTv
                        · exact hdn.out m' q' (by omega) h2)
                      replace hTv := hide hTv
                      go_upto_region 29 with (fail)
                      rw [hY.out, ← hN15]
                      clear hY
                      replace hN15 := hide hN15
                      clear s0 s1 s2
                      go_quiet (fail)
                      have hbq : Below W.heap.size W (Y.drewN nq) := below_drewN hbelY _
                      have hTq := hide (hTY.out.below (bkU nq))
                      have hMq := hide (hMY.out.below (bkU nq))
                      go_wp2
                      go_roundw
                      case rel => exact ⟨m5 + 1, T3, W3, by go_num, hlt5, hTq, hMq, hI, hmo, hdn2, hmu3, hbq⟩
                      case measure => simp [intOf]; omega
                    | false =>
                      rw [hTv] at t1
                      have hneedy : Need f.blocks.flatten y := .step (insAt_mem hy.out) hyr.out hneed.out (List.any_eq_true.2 ⟨v, List.mem_of_getElem? hv.out, by simp [usesReg, hk1.out, hyg.out]⟩)
                      have hI2 := hide (hI.out.mark hy.out hneedy)
                      have hmo2 : Hid (∀ c j, T2 c j = true → setT T3 qb qi c j = true) := hide (fun c j h => setT_mono (hmo.out c j h))
                      have hdn2 : Hid (∀ (m' : Nat) q, m' < m5 + 1 → L[m']? = some q → setT T3 qb qi q.1 q.2 = true) := hide (fun m' q' h1 h2 => by
                        by_cases e : m' = m5
                        · subst e; rw [hq.out] at h2; cases h2; exact setT_self _ _ _
                        · exact setT_mono (hdn.out m' q' (by omega) h2))
                      have hmu5 : Hid (unm len (setT T3 qb qi) b + (W3 ++ [(qb, qi)]).length + 1 = gk) := hide (by
                        have := unm_set (len := len) hTv hqi (n := b) hqb
                        rw [← hmu3.out, List.length_append, List.length_singleton]
                        omega)
                      have hw3 : W3.length ≤ 4000000 := by have := hmu3.out; have := hmu.out; have := hroom.out; omega
                      replace hTv := hide hTv
                      go_upto_region 29 with (fail)
                      rw [hY.out, ← hN15]
                      clear hY
                      replace hN15 := hide hN15
                      clear s0 s1 s2
                      go_quiet (fail)
                      have hbq : Below W.heap.size W (Y.drewN nq) := below_drewN hbelY _
                      have hTq := hide (hTY.out.below (bkU nq))
                      have hMq := hide (hMY.out.below (bkU nq))
                      have hBq : Hid ((Y.drewN nq).heap[N15]? = some (.cells #[.int .i64 0, .int .i64 (qb : Int), .int .i64 (qi : Int)] 58 (0, 0))) := hide hBY.out
                      have hsq : N15 < (Y.drewN nq).heap.size := hN15Y
                      obtain ⟨X, hX⟩ : ∃ X, X = Y.drewN nq := ⟨_, rfl⟩
                      rw [← hX] at hbq hTq hMq hBq hsq ⊢
                      clear hX hTY hMY hBY z0 z1 z2 t0 t1 f1 hN15Y hbelY
                      obtain ⟨cq, hcq⟩ := hTq.out.is_bool hqb
                      obtain ⟨co, hco⟩ := hTq.out.is_outer
                      have hne1 : gs qb ≠ N15 := fun e => by rw [e, hBq.out] at hcq; cases hcq
                      have hne2 : gs qb ≠ W.heap.size := fun e => by rw [e, hco] at hcq; cases hcq
                      have hWX := hbq.size
                      have hGX := (hTq.out.outer 0).2.2.2
                      obtain ⟨z0, z1, z2⟩ := three_boxU hBq.out
                      have t0 := hTq.out.row (Nat.le_refl _) hqb
                      obtain ⟨t1, f1⟩ := hTq.out.cell hqb hqi
                      have y0 : ∀ w', Only (fun k => k = gs qb) X.heap.size X w' → w'.cell? ⟨N15, 1, none⟩ = some (.int .i64 (qb : Int)) := fun w' h => (h.cell (p := ⟨N15, 1, none⟩) hsq (fun e => hne1 e.symm)).trans z1
                      have y1 : ∀ w', Only (fun k => k = gs qb) X.heap.size X w' → w'.cell? ⟨N15, 2, none⟩ = some (.int .i64 (qi : Int)) := fun w' h => (h.cell (p := ⟨N15, 2, none⟩) hsq (fun e => hne1 e.symm)).trans z2
                      have y2 : ∀ w', Only (fun k => k = gs qb) X.heap.size X w' → w'.cell? ⟨W.heap.size, qb, none⟩ = some (.slice (some ⟨gs qb, 0, none⟩) (len qb) (len qb)) := fun w' h => (h.cell (p := ⟨W.heap.size, qb, none⟩) hGX (fun e => hne2 e.symm)).trans t0
                      have hT4 : Hid (TabV (X.setCell ⟨gs qb, qi, none⟩ (.bool true)).drew W.heap.size W.heap.size b len gs (setT T3 qb qi) b) := hide ((hTq.out.set_ hqb hqi).below (Below.refl _ _).drew)
                      have hM4 : Hid (Mks (X.setCell ⟨gs qb, qi, none⟩ (.bool true)).drew W.heap.size M cnt vals mk u5 W3) := hide ((hMq.out.set_ (p := ⟨gs qb, qi, none⟩) (u := .bool true) hcq (by decide)).below (Below.refl _ _).drew)
                      have hb4 : Hid (Below W.heap.size W (X.setCell ⟨gs qb, qi, none⟩ (.bool true)).drew) := hide (hbq.setCell (p := ⟨gs qb, qi, none⟩) (hTq.out.lt hqb).1 (.bool true)).drew
                      have hB4 : Hid ((X.setCell ⟨gs qb, qi, none⟩ (.bool true)).drew.heap[N15]? = some (.cells #[.int .i64 0, .int .i64 (qb : Int), .int .i64 (qi : Int)] 58 (0, 0))) := hide ((setCell_heap_ne (w := X) (p := ⟨gs qb, qi, none⟩) (u := .bool true) hBq.out hcq (by decide)).trans hBq.out)
                      have t1d : X.drew.cell? ⟨gs qb, qi, none⟩ = some (.bool (T3 qb qi)) := t1
                      have f1d : X.drew.frozen? ⟨gs qb, qi, none⟩ = false := f1
                      have hself9 := Only.refl (fun k => k = gs qb) X.heap.size X
                      replace hcq := hide hcq
                      replace hco := hide hco
                      clear z0 z1 z2 t0 t1 f1
                      go_upto_region 30 with (fail)
                      go_region_held3 (fun w' => Only (fun k => k = gs qb) X.heap.size X w') (first | (with_reducible assumption) | exact hself9.drew | exact (hself9.drew).setCell (.inl rfl) _) (fail)
                      go_upto_region 31 with (fail)
                      obtain ⟨w8, hw8⟩ : ∃ w8, (X.setCell ⟨gs qb, qi, none⟩ (.bool true)).drew = w8 := ⟨_, rfl⟩
                      rw [hw8] at hT4 hM4 hb4 hB4 ⊢
                      clear hw8 y0 y1 y2 t1d f1d hself9 hTq hMq hBq hbq hcq hco
                      obtain ⟨z0, z1, z2⟩ := three_boxU hB4.out
                      obtain ⟨nW, hnW⟩ : ∃ nW, Hid (nW = W3.length) := ⟨_, hide rfl⟩
                      rw [← hnW.out] at hw3
                      have hownW : Hid (w8.ownsRow W.heap.size 58 3 u5 nW (W3.flatMap plc)) := hide (by rw [hnW.out]; exact hM4.out.work)
                      have hb4' := hb4.out
                      have hW8 := hb4'.size
                      go_wp2_with (at_builtin
                                   refine wpList_append_lies _ rfl (.tmp 137) (.tmp 139) _ rfl W.heap.size 58 m0 _ 3 24 Try.underlying85 hm0.out hm1.out hm2'.out hm3.out rfl (by omega) u5 nW (W3.flatMap plc) rfl (hownW.out.alloc _) ⟨w8.heap.size, 0, none⟩ 1 1 [.int .i64 0, .int .i64 (qb : Int), .int .i64 (qi : Int)] rfl rfl ?c1 ?c2 (by omega) ?c3 ?c4 ?c5 (w8.heap.size + 1) ?c6 ?_
                                   case c1 => exact World.news_of_block (cs := #[.int .i64 0, .int .i64 (qb : Int), .int .i64 (qi : Int)]) (t := 58) (fr := (0, 0)) (heap_alloc_new w8 _)
                                   case c2 => simp [Value.oneCell']
                                   case c3 => unfold maxLen; omega
                                   case c4 => omega
                                   case c5 => simp; omega
                                   case c6 => simp
                                   intro gq cq w1 hown1 hg1 hgq hlt1
                                   have hbw1 : Below W.heap.size W w1 := (hb4'.alloc hW8 _).grown hg1 (by simp; omega) (fun k hk => (row_lt hownW.out hk).1)
                                   have hMp := hide (Mks.push (p := (qb, qi)) hM4.out ((Below.refl _ _).alloc (Nat.le_refl _) _) hg1 (hgq.imp id (fun h => by simp; omega)) (by rw [← hnW.out]; exact hown1))
                                   rw [← hnW.out] at hMp
                                   have hTp5 := hide (hT4.out.but (But.grown hownW.out hg1))
                                   replace hown1 := hide hown1
                                   replace hg1 := hide hg1
                                   replace hgq := hide hgq
                                   replace hlt1 := hide hlt1)
                      go_roundw
                      case rel => exact ⟨m5 + 1, _, _, by go_num, hlt5, hTp5, hMp, hI2, hmo2, hdn2, hmu5, hbw1⟩
                      case measure => simp [intOf]; omega
                  · obtain rfl : m5 = nl := by omega
                    have hcl2 : Hid (∀ (k' : Nat) v, k' < k + 1 → ins.args[k']? = some v → v.kind = 1 → ∀ c j y, insAt f.blocks c j = some y → iresult y.op y.ty ≠ 0 → y.reg = v.num → T3 c j = true) := hide (fun k' v' h1 h2 h3 c j y hy hr hg => by
                      by_cases e : k' = k
                      · subst e
                        rw [hv.out] at h2; cases h2
                        have hmem := (hmk.out v.num (c, j)).2 ⟨y, hy, hr, hg⟩
                        rw [← hL.out] at hmem
                        obtain ⟨m', hm'⟩ := List.mem_iff_getElem?.1 hmem
                        exact hdn.out m' (c, j) (by rw [hnl.out]; exact (List.getElem?_eq_some_iff.1 hm').1) hm'
                      · exact hmo.out c j (hcl.out k' v' (by omega) h2 h3 c j y hy hr hg))
                    go_wp2
                    go_roundw
                    case rel => exact ⟨k + 1, T3, W3, by go_num, hlt3, hT, hMk, hI, hcl2, hmu3, hbel⟩
                    case measure => simp [intOf]; omega
              · have hk2 : (v.kind != 1) = true := by simp [hk1]
                have hcl2 : Hid (∀ (k' : Nat) v, k' < k + 1 → ins.args[k']? = some v → v.kind = 1 → ∀ c j y, insAt f.blocks c j = some y → iresult y.op y.ty ≠ 0 → y.reg = v.num → T2 c j = true) := hide (fun k' v' h1 h2 h3 => by
                  by_cases e : k' = k
                  · subst e; rw [hv.out] at h2; cases h2; exact absurd h3 hk1
                  · exact hcl.out k' v' (by omega) h2 h3)
                replace hk1 := hide hk1
                go_upto_region 25 with (fail)
                rw [hZ.out]
                clear hZ
                go_wp2
                go_roundw
                case rel => exact ⟨k + 1, T2, W2, by go_num, hlt3, hTZ, hMZ, hI, hcl2, hmu2, hbelZ⟩
                case measure => simp [intOf]; omega
            · obtain rfl : k = na := by omega
              have hI2 := hide (hI.out.close hat.out (fun v hv hk1 c j y hy hr hg => by
                obtain ⟨k', hk'⟩ := List.mem_iff_getElem?.1 hv
                exact hcl.out k' v (by rw [hna.out]; exact (List.getElem?_eq_some_iff.1 hk').1) hk' hk1 c j y hy hr hg))
              have hroom2 : Hid (unm len T2 b + W2.length ≤ 4000000) := hide (by have := hmu2.out; have := hmu.out; have := hroom.out; omega)
              have hlt9 : Hid (unm len T2 b + W2.length < gk) := hide (by have := hmu2.out; omega)
              go_wp2
              go_roundg (unm len T2 b + W2.length)
              case measure => exact hlt9.out
              case rel => exact ⟨T2, W2, rfl, hT, hMk, hI2, hroom2, hbel⟩
end Go.Proofs.Ytaljdbmmjgmbbaa
