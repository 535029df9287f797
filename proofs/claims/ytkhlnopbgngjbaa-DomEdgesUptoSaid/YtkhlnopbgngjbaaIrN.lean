/- latheref02.Code. No condition. -/
import Derived.Test.YtkhlnopbgngjbaaIrO
import Derived.Test.YtkhlnopbgngjbaaIrDatb
import Derived.Test.YtkhlnopbgngjbaaOwn
import Derived.Deep.AppendLies
namespace Go.Proofs.Ytkhlnopbgngjbaa
open Go.RowKit

def RPlc : Rp Plc := .plain (fun x => [.int .i64 x.fn, .int .i64 x.blk, .int .i64 x.pos]) fun _ => True
theorem info_Instr : (Try.prog.info? 74).map (fun i => (i.zero, i.size, i.bytes)) = some (some (.agg #[.int .i64 0, .int .i64 0, .int .i64 0, .int .i64 0, .int .i64 0, .slice none 0 0, .slice none 0 0]), 7, 88) := by kernel_rfl
theorem info_Place : (Try.prog.info? 84).map (fun i => (i.zero, i.size, i.bytes)) = some (some (.agg #[.int .i64 0, .int .i64 0, .int .i64 0]), 3, 24) := by kernel_rfl

/-- what Code answers: the instructions in order, and their places -/
def CodePost (f : Fun) (w : World) (e : Ending) (w' : World) : Prop :=
  ∃ v1 v2, e = .returned (.tuple #[v1, v2]) ∧ Below w.heap.size w w' ∧ RBlk.rep w' w'.heap.size [v1] f.blocks.flatten ∧ (Rp.slice 3 RPlc).rep w' w'.heap.size [v2] (beforeP f.blocks f.blocks.length 0)

set_option maxHeartbeats 1600000 in
theorem code_any (f : Fun) (c1 c2 : Value) (w : World) (B : Nat) (hB : B ≤ w.heap.size) (hp : RInts.rep w B [c1] f.params) (hb : RBlks.rep w B [c2] f.blocks) (hsz : f.blocks.flatten.length ≤ 1000000000000) :
    Calls Try.prog 85 #[f.v c1 c2] w (CodePost f w) := by
  obtain ⟨A1, k1, h1, hm1, -⟩ := Rp.slice1_at hp
  obtain ⟨A2, k2, h2, hm2, gb⟩ := Rp.slice1_at (RBlks.later hb (Below.refl _ _) hB)
  cases h1; cases h2
  replace gb := hide gb
  clear hp hb
  obtain ⟨i0, hi0, hz0, hz1, hz2⟩ := info_parts info_Instr
  obtain ⟨j0, hj0, hy0, hy1, hy2⟩ := info_parts info_Place
  replace hi0 := hide hi0
  replace hz0 := hide hz0
  replace hz1 := hide hz1
  replace hz2 := hide hz2
  replace hj0 := hide hj0
  replace hy0 := hide hy0
  replace hy1 := hide hy1
  replace hy2 := hide hy2
  obtain ⟨W, hW, hwW, hWs, hx⟩ := boxes1 w #[.string f.name, .slice A1 f.params.length k1, .int .i64 f.ret, .slice A2 f.blocks.length k2] 25
  have x3 := hx 3 _ rfl
  clear hx
  have hws : w.heap.size ≤ W.heap.size := by omega
  replace hWs := hide hWs
  go_enter Try.func85, Try.ntmps85
  go_wp2
  clear hW
  go_loopw [4, 5, 6] (fun l p i wr => ∃ k : Nat, k ≤ f.blocks.length ∧ i = .int .i64 k ∧ Hid (Own RIns 7 74 wr W.heap.size w.heap.size l (before f.blocks k 0)) ∧ Hid (Own RPlc 3 84 wr W.heap.size w.heap.size p (beforeP f.blocks k 0)) ∧ Below W.heap.size W wr) (fun _ _ i _ => f.blocks.length - (intOf i).toNat)
  case atStart => exact ⟨0, Nat.zero_le _, rfl, hide (by rw [before_zero]; exact Own.nil_), hide Own.nil_, Below.refl _ _⟩
  case round =>
    rename_i l p
    obtain ⟨k, hk, rfl, hl, hpp, hbel⟩ := hrel
    by_cases hlt : k < f.blocks.length
    · obtain ⟨b1, o1, rfl, hb1, he1⟩ := gb.out (by omega)
      obtain ⟨x, hx⟩ := get_ex hlt
      obtain ⟨d1, hr1, hd1⟩ := he1 k x hx.out
      obtain ⟨A3, c3, h3, hm3, ga3⟩ := Rp.slice_at hr1
      cases h3
      replace ga3 := hide ga3
      have hd1' : ∀ w', Below W.heap.size W w' → w'.cell? ⟨b1, o1 + k, none⟩ = some (.slice A3 x.length c3) := fun w' h => ((hwW.trans (h.mono hws)).cell (p := ⟨b1, o1 + k, none⟩) hb1).trans hd1
      clear hd1 hr1 he1
      go_wp2
      go_loopw [4, 5, 7] (fun l p i wr => ∃ m : Nat, m ≤ x.length ∧ i = .int .i64 m ∧ Hid (Own RIns 7 74 wr W.heap.size w.heap.size l (before f.blocks k m)) ∧ Hid (Own RPlc 3 84 wr W.heap.size w.heap.size p (beforeP f.blocks k m)) ∧ Below W.heap.size W wr) (fun _ _ i _ => x.length - (intOf i).toNat)
      case atStart => exact ⟨0, Nat.zero_le _, rfl, hl, hpp, hbel⟩
      case round =>
        clear hl hpp hbel
        rename_i l p
        obtain ⟨m, hm, rfl, hl, hpp, hbel⟩ := hrel
        by_cases hlt2 : m < x.length
        · obtain ⟨b3, o3, rfl, hb3, he3⟩ := ga3.out (by omega)
          obtain ⟨ins, hins⟩ := get_ex hlt2
          obtain ⟨_, _, ⟨a1, a2, rfl, ha, hto, hwf⟩, hat⟩ := he3 m ins hins.out
          have hri : Hid (RIns.rep w w.heap.size [.int .i64 ins.op, .int .i64 ins.reg, .int .i64 ins.ty, .int .i64 ins.num, .int .i64 ins.flags, a1, a2] ins) := hide ⟨a1, a2, rfl, ha, hto, hwf⟩
          obtain ⟨A5, k5, h5, -, -⟩ := Rp.slice_at ha
          obtain ⟨A6, k6, h6, -, -⟩ := Rp.slice1_at hto
          cases h5; cases h6
          have hc : Cells W W.heap.size b3 (o3 + m * 7) _ := fun j u hu w' hw => ((hwW.trans (hw.mono hws)).cell (p := ⟨b3, o3 + m * 7 + j, none⟩) hb3).trans (hat j u hu)
          obtain ⟨q0, q1, q2, q3, q4, q5, q6⟩ := hc.seven
          clear he3 hat hc ha hto hwf
          have hlen : (before f.blocks k m).length ≤ 1000000000000 := by
            obtain ⟨r, hr⟩ := @before_prefix f.blocks k m
            rw [← hr, List.length_append] at hsz
            omega
          have hlenP : Hid ((beforeP f.blocks k m).length = (before f.blocks k m).length) := hide (beforeP_length k m (.inr ⟨x, hx.out, hm⟩) hk)
          have hlenP2 : (beforeP f.blocks k m).length ≤ 1000000000000 := by rw [hlenP.out]; exact hlen
          obtain ⟨ess, hel, hown, hrep⟩ := hl.out
          obtain ⟨esp, hep, hownp, hrepp⟩ := hpp.out
          have hne := own_ne hownp hown (by decide)
          have hne' := own_ne hown hownp (by decide)
          have hl0 := hown.lt
          have hp0 := hownp.lt
          replace hel := hide hel
          replace hrep := hide hrep
          replace hown := hide hown
          replace hep := hide hep
          replace hrepp := hide hrepp
          replace hownp := hide hownp
          replace hne := hide hne
          replace hne' := hide hne'
          replace hl0 := hide hl0
          replace hp0 := hide hp0
          have hbs := hbel.size
          go_wp2_with (first
            | (at_builtin
               refine wpList_append_own _ rfl (.tmp 26) (.tmp 36) _ rfl W.heap.size 74 i0 _ 7 88 Try.underlying69 hi0.out hz0.out hz1.out hz2.out rfl (by omega) u4 _ _ rfl (hown.out.alloc _) ⟨wr.heap.size, 0, none⟩ 1 1 [.int .i64 ins.op, .int .i64 ins.reg, .int .i64 ins.ty, .int .i64 ins.num, .int .i64 ins.flags, .slice A5 ins.args.length k5, .slice A6 ins.to.length k6] rfl rfl ?c1 ?c2 ?c3 ?c4 ?c5 ?_
               case c1 => exact World.news_of_block (cs := #[.int .i64 ins.op, .int .i64 ins.reg, .int .i64 ins.ty, .int .i64 ins.num, .int .i64 ins.flags, .slice A5 ins.args.length k5, .slice A6 ins.to.length k6]) (t := 74) (fr := (0, 0)) (heap_alloc_new wr _)
               case c2 => simp [Value.oneCell']
               case c3 => unfold maxLen; omega
               case c4 => omega
               case c5 => simp; omega
               intro v1 w1 hown1 hg1 _
               have hbw1 : Below W.heap.size W w1 := (hbel.alloc hbs _).grown hg1 (by simp; omega) (fun k hk => (hl0.out k hk).1)
               have hL := hide (Own.snoc (R := RIns) (n := 7) (y := ins) hel.out (fun i es y h1 h2 => ⟨(hrep.out i es y h1 h2).1, RIns.keep (hrep.out i es y h1 h2).2 (fun p hp => World.cell?_alloc_lt wr _ p (by omega)) (Nat.le_refl _)⟩) hown1 hg1 (fun k hk => by have := (hl0.out k hk).1; omega) (by simp; omega) rfl (RIns.later hri.out (hwW.trans ((hbel.alloc hbs _).mono hws)) (Nat.le_refl _)))
               have hP1 := hide ((Own.alloc hpp.out (by omega) _).kept hg1 hne.out (by simp; omega) (fun k hk => by have := (hl0.out k hk).1; omega))
               have hbs1 := hbw1.size
               obtain ⟨esp1, hep1, hownp1, hrepp1⟩ := hP1.out
               have hp1 := hide hownp1.lt
               have hnl := hide (own_ne hown1 hownp1 (by decide))
               replace hep1 := hide hep1
               replace hrepp1 := hide hrepp1
               replace hownp1 := hide hownp1
               replace hown1 := hide hown1
               replace hg1 := hide hg1)
            | (at_builtin
               refine wpList_append_own _ rfl (.tmp 38) (.tmp 42) _ rfl W.heap.size 84 j0 _ 3 24 Try.underlying82 hj0.out hy0.out hy1.out hy2.out rfl (by omega) u5 _ _ rfl (hownp1.out.alloc _) ⟨w1.heap.size, 0, none⟩ 1 1 [.int .i64 0, .int .i64 k, .int .i64 m] rfl rfl ?d1 ?d2 ?d3 ?d4 ?d5 ?_
               case d1 => exact World.news_of_block (cs := #[.int .i64 0, .int .i64 k, .int .i64 m]) (t := 84) (fr := (0, 0)) (heap_alloc_new w1 _)
               case d2 => simp [Value.oneCell']
               case d3 => unfold maxLen; omega
               case d4 => omega
               case d5 => simp; omega
               intro v2 w2 hown2 hg2 _
               have hbw2 : Below W.heap.size W w2 := (hbw1.alloc hbs1 _).grown hg2 (by simp; omega) (fun k hk => (hp1.out k hk).1)
               have hP2 := hide (Own.snoc (R := RPlc) (n := 3) (y := ⟨0, k, m⟩) hep1.out (fun i es y h1 h2 => ⟨(hrepp1.out i es y h1 h2).1, RPlc.keep (hrepp1.out i es y h1 h2).2 (fun p hp => World.cell?_alloc_lt w1 _ p (by omega)) (Nat.le_refl _)⟩) hown2 hg2 (fun k hk => by have := (hp1.out k hk).1; omega) (by simp; omega) rfl ⟨rfl, trivial⟩)
               have hL2 := hide ((Own.alloc hL.out (by omega) _).kept hg2 hnl.out (by simp; omega) (fun k hk => by have := (hp1.out k hk).1; omega))
               replace hown2 := hide hown2
               replace hg2 := hide hg2))
          go_roundw
          case rel => exact ⟨m + 1, hlt2, by go_num, hide (by rw [before_step hx.out hins.out]; exact hL2.out), hide (by rw [beforeP_step]; exact hP2.out), hbw2⟩
          case measure => simp [intOf]; omega
        · have hlast : Hid (m = x.length) := hide (by omega)
          go_wp2
          go_roundw
          case rel => exact ⟨k + 1, hlt, by go_num, hide (by rw [← before_next hx.out, ← hlast.out]; exact hl.out), hide (by rw [← beforeP_next hx.out, ← hlast.out]; exact hpp.out), hbel⟩
          case measure => simp [intOf]; omega
    · have hlast : Hid (k = f.blocks.length) := hide (by omega)
      have hbs := hbel.size
      go_wp2
      go_ret2
      refine ⟨_, _, rfl, hwW.trans (hbel.mono hws), ?_, ?_⟩
      · have := (hl.out).rep (by omega)
        rw [hlast.out, before_end] at this
        exact this
      · have := (hpp.out).rep (by omega)
        rw [hlast.out] at this
        exact this
end Go.Proofs.Ytkhlnopbgngjbaa
