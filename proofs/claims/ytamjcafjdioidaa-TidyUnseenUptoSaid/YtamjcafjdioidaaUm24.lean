/- Texts of the chain, without what is not wanted: TdF, IcA. No condition but sizes. -/
import Derived.WalkKit
import Derived.Deep.Slices
import Derived.Deep.Draws
import Derived.ChangeSame
import Derived.ChangeOld
import Derived.OwnWalk
import Derived.Laws.OwnMore
import Derived.Deep.AppendLies
import Derived.Test.YtamjcafjdioidaaRows
import Derived.ProofKit
import Derived.OpenShut
import Derived.JoinedCond
import Derived.WalkSpells
import Derived.WalkLawsBesides
import Derived.Deep.RegionHeld3
import Derived.Deep.LoopGhost
import Derived.Deep.QuietTactic
import Derived.BigQuiet
import Derived.Deep.DeepCutAuto
import Derived.Deep.CutBlock
import Derived.StillTailTactics
import Derived.Deep.RegionLaw
import Derived.Lib.SliceRun
import Derived.Laws.IdiomCopy
import Derived.Test.YtamjcafjdioidaaUm01
import Derived.Test.YtamjcafjdioidaaUm02
import Derived.Test.YtamjcafjdioidaaUm03
import Derived.Test.YtamjcafjdioidaaUm04
import Derived.Test.YtamjcafjdioidaaUm05
import Derived.Test.YtamjcafjdioidaaUm06
import Derived.Test.YtamjcafjdioidaaUm07
import Derived.Test.YtamjcafjdioidaaUm08
import Derived.Test.YtamjcafjdioidaaUm09
import Derived.Test.YtamjcafjdioidaaUm10
import Derived.Test.YtamjcafjdioidaaUm11
import Derived.Test.YtamjcafjdioidaaUm12
import Derived.Test.YtamjcafjdioidaaUm16
import Derived.Test.YtamjcafjdioidaaUm17
import Derived.Test.YtamjcafjdioidaaUm18
import Derived.Test.YtamjcafjdioidaaUm19
import Derived.Test.YtamjcafjdioidaaUm20
import Derived.Test.YtamjcafjdioidaaUm21
import Derived.Test.YtamjcafjdioidaaUm22
import Derived.Test.YtamjcafjdioidaaUm23
namespace Go.Proofs.Ytamjcafjdioidaa
open Go.RowKit
set_option linter.unusedSimpArgs false
set_option linter.unusedVariables false
set_option maxRecDepth 100000 in
set_option maxHeartbeats 6400000 in
theorem tunseens_any {w : World} {T : Nat → Prop} {N : Nat} {f : Fun} {c d : Value} {Cp : Nat → Prop} (hCp : ∀ k, c.ownBlock = some k → Cp k) (h : MF w T N f c d) (hs : Small f) (hwf : Wf f.blocks) :
  Calls Try.prog 38 #[.pointer (some ⟨N, 0, none⟩)] w (RulePost w T N f Cp (unseenS (reachF f.blocks) f.blocks)) := by
 replace hCp := hide hCp
 obtain ⟨R, hR⟩ : ∃ R, Hid (R = reachF f.blocks) := ⟨_, hide rfl⟩
 obtain ⟨n, hn⟩ : ∃ n, Hid (n = f.blocks.length) := ⟨_, hide rfl⟩
 have hnb : n ≤ 2000000 := by rw [hn.out]; exact hs.blocks
 have hRl : Hid (R.length = n) := hide (by rw [hR.out, hn.out, reach_len])
 obtain ⟨res, hres⟩ : ∃ res, Hid (res = unseenS R f.blocks) := ⟨_, hide rfl⟩
 rw [← hR.out, ← hres.out]
 obtain ⟨xs0, ess0, hk0, hT0⟩ := h.tree
 obtain ⟨Ad, Cd, hdf⟩ := row_form hk0.row
 subst hdf
 obtain ⟨Ac, Cc, hcf⟩ := row_form h.par.row
 subst hcf
 have hNlt := h.lt
 have hbox := h.box
 have b0 := box_cell9 hbox 0 rfl
 have b1 := box_cell9 hbox 1 rfl
 have b2 := box_cell9 hbox 2 rfl
 have b3 := box_cell9 hbox 3 rfl
 obtain ⟨np, hnp⟩ : ∃ np, Hid (np = f.params.length) := ⟨_, hide rfl⟩
 have cR : Hid (Calls Try.prog 22 #[f.v (.slice Ac np Cc) (.slice Ad n Cd)] w (ReachPost n R w)) := hide (by
  have := reach_any f _ _ w w.heap.size (Nat.le_refl _) h.rep hs
  rw [← hn.out, ← hR.out, ← hnp.out] at this
  exact this)
 have hcut := h.cut
 have hTT : Hid (∀ k, T k ∧ k < w.heap.size → T k) := hide (fun k hk => hk.1)
 rw [← hnp.out] at b1
 rw [← hn.out] at b3
 rw [← hnp.out, ← hn.out] at hcut
 obtain ⟨i0, hi0, hz0, hz1, hz2⟩ := cinfo_parts cinfo_bool
 replace hi0 := hide hi0
 replace hz0 := hide hz0
 replace hz1 := hide hz1
 replace hz2 := hide hz2
 have hself := Below.refl w.heap.size w
 replace h := hide h
 replace hcut := hide hcut
 replace hk0 := hide hk0
 replace hT0 := hide hT0
 replace hbox := hide hbox
 replace hwf := hide hwf
 replace hs := hide hs
 go_enter Try.func38, Try.ntmps38
 go_wp2_with (fail)
 refine cR.out.mono ?_
 rintro e w1 ⟨gr, rfl, hrr, hb1⟩
 obtain ⟨-, hrd⟩ := bool_reads hrr
 have hgrl : gr < w1.heap.size := (row_lt hrr rfl).2.1
 have hgrw : w.heap.size ≤ gr := (row_lt hrr rfl).1
 replace hrr := hide hrr
 replace hrd := hide hrd
 have hw1s := hb1.size
 clear cR hself b0 b1 b2 b3
 go_wp2_with (at_make; refine wpList_make_full _ rfl (.tmp 16) (.tmp 16) _ rfl w1.heap.size 4 i0 _ 1 Try.underlying53 hi0.out hz0.out hz1.out .i64 .i64 n n n rfl rfl rfl rfl ?c1 ?c2 (Nat.le_refl _) ?_)
 case c1 => rw [hz2.out]; omega
 case c2 => unfold maxLen; omega
 intro w2 hown2 hg2
 have hb2 := below_grown0 hg2
 obtain ⟨G, hG⟩ : ∃ G, Hid (G = w1.heap.size) := ⟨_, hide rfl⟩
 rw [← hG.out]
 have hrow0 : Hid (w2.ownsRow w1.heap.size 4 1 (.slice (some ⟨G, 0, none⟩) n n) n ((goneL R 0).map Value.bool)) := hide (by
  rw [hG.out, goneL_zero, hRl.out]
  exact made_bools hown2)
 have hGw2 : G < w2.heap.size := (row_lt hrow0.out rfl).2.1
 have hany0 : Hid (false = (R.take 0).any fun r => !r) := hide (by simp)
 replace hown2 := hide hown2
 replace hg2 := hide hg2
 go_wp2
 go_loopw [5, 20] (fun s5 s wr => ∃ (i : Nat) (sm : Bool), s5 = .bool sm ∧ s = .int .i64 i ∧ i ≤ n ∧ Hid (sm = (R.take i).any fun r => !r) ∧ Hid (wr.ownsRow w1.heap.size 4 1 (.slice (some ⟨G, 0, none⟩) n n) n ((goneL R i).map Value.bool)) ∧ Below w1.heap.size w1 wr) (fun _ s _ => n - (intOf s).toNat)
 case atStart => exact ⟨0, false, rfl, rfl, Nat.zero_le _, hany0, hrow0, hb2⟩
 case round =>
  clear hrow0 hb2
  rename World => V
  obtain ⟨i, sm, rfl, rfl, hi, hany, hrowV, hbV⟩ := hrel
  have hVs := hbV.size
  by_cases hlt : i < n
  ·have hii : (i : Int) < (n : Int) := by omega
   obtain ⟨r, hr⟩ := get_ex (l := R) (k := i) (by rw [hRl.out]; exact hlt)
   have rr := hrd.out i r hr.out V hbV
   have hgb : ∃ u, (goneL R i)[i]? = some u := ⟨_, List.getElem?_eq_getElem (by rw [goneL_len (by rw [hRl.out]; exact hi), hRl.out]; exact hlt)⟩
   obtain ⟨u, hu⟩ := hgb
   have r1 := OwnB.cell hrowV.out hu hlt
   have r2 := row_free hrowV.out i
   have hrow2 := hide (by have h9 := (World.ownsRow.stored hrowV.out i (.bool (!r))).1; rwa [← List.map_set, goneL_next hr.out] at h9)
   have hGw : w1.heap.size ≤ G := by have := hG.out; omega
   have hbV2 : Below w1.heap.size w1 (V.setCell ⟨G, i, none⟩ (.bool (!r))) := hbV.setCell hGw _
   have hany2 := hide (any_next hr.out)
   replace hr := hide hr
   clear hu
   cases r with
   | true =>
    have hany3 : Hid (sm = (R.take (i + 1)).any fun r => !r) := hide (by rw [hany2.out, ← hany.out]; simp)
    cases sm with
    | true =>
     go_wp2
     go_roundw
     case rel => exact ⟨i + 1, _, rfl, by go_num, hlt, hany3, hrow2, hbV2⟩
     case measure => simp [intOf]; omega
    | false =>
     go_wp2
     go_roundw
     case rel => exact ⟨i + 1, _, rfl, by go_num, hlt, hany3, hrow2, hbV2⟩
     case measure => simp [intOf]; omega
   | false =>
    have hany3 : Hid (true = (R.take (i + 1)).any fun r => !r) := hide (by rw [hany2.out, ← hany.out]; simp)
    cases sm with
    | true =>
     go_wp2
     go_roundw
     case rel => exact ⟨i + 1, _, rfl, by go_num, hlt, hany3, hrow2, hbV2⟩
     case measure => simp [intOf]; omega
    | false =>
     go_wp2
     go_roundw
     case rel => exact ⟨i + 1, _, rfl, by go_num, hlt, hany3, hrow2, hbV2⟩
     case measure => simp [intOf]; omega
  ·obtain rfl : n = i := by omega
   have hRa : Hid (sm = R.any fun r => !r) := hide (by rw [hany.out, List.take_of_length_le (by rw [hRl.out]; exact Nat.le_refl _)])
   have hwV : Below w.heap.size w V := hb1.trans (hbV.mono hw1s)
   cases sm with
   | false =>
    have hfin : Hid (RulePost w T N f Cp res (.returned (.bool false)) V) := hide (RulePost.none_ (by
     rw [hres.out]
     unfold unseenS
     rw [← hRa.out]
     rfl) h.out hwV hCp.out)
    go_wp2
    go_ret
    exact hfin.out
   | true =>
    obtain ⟨gone, hgone⟩ : ∃ gone, Hid (gone = R.map fun r => !r) := ⟨_, hide rfl⟩
    have hrow3 : Hid (V.ownsRow w1.heap.size 4 1 (.slice (some ⟨G, 0, none⟩) n n) n (gone.map Value.bool)) := hide (by
     have h9 := hrowV.out
     rwa [← hRl.out, goneL_end, ← hgone.out, hRl.out] at h9)
    have hgl : Hid (gone.length = n) := hide (by rw [hgone.out, List.length_map, hRl.out])
    have hfound : Hid (res = some (withoutS gone (loseAll gone n f.blocks n))) := hide (by
     rw [hres.out]
     unfold unseenS
     rw [← hRa.out, if_pos rfl, ← hgone.out, ← hn.out])
    have hGlt : G < V.heap.size := (row_lt hrow3.out rfl).2.1
    have hGT : ¬ (T G ∧ G < w.heap.size) := fun h9 => by have := hG.out; omega
    have hGN : G ≠ N := by have := hG.out; omega
    have hgo : Hid (∀ k g, gone[k]? = some g → ∀ w', Only (fun k => T k ∧ k < w.heap.size) V.heap.size V w' → w'.cell? ⟨G, k, none⟩ = some (.bool g)) := hide (fun k g hg => on_fact (OwnB.cell hrow3.out hg (by have := (List.getElem?_eq_some_iff.1 hg).1; have := hgl.out; omega)) hGlt hGT)
    have hm0 : Hid (MF V (fun k => T k ∧ k < w.heap.size) N (setBlocks f (loseAll gone n f.blocks 0)) (.slice Ac np Cc) (.slice Ad n Cd)) := hide (hcut.out.below hwV)
    have hon0 : Only (fun k => T k ∧ k < w.heap.size) V.heap.size V V := Only.refl _ _ _
    obtain ⟨V1, hV1⟩ : ∃ V1, Hid (V1 = V) := ⟨_, hide rfl⟩
    rw [← hV1.out] at hwV hrow3 hGlt hgo hm0 hon0 ⊢
    clear hrowV
    go_wp2
    go_loopw [40] (fun s wr => ∃ b : Nat, s = .int .i64 b ∧ b ≤ n ∧ Hid (MF wr (fun k => T k ∧ k < w.heap.size) N (setBlocks f (loseAll gone n f.blocks b)) (.slice Ac np Cc) (.slice Ad n Cd)) ∧ Only (fun k => T k ∧ k < w.heap.size) V1.heap.size V1 wr) (fun s _ => n - (intOf s).toNat)
    case atStart => exact ⟨0, rfl, Nat.zero_le _, hm0, hon0⟩
    case round =>
     clear hm0 hon0
     rename World => V2
     obtain ⟨b, rfl, hb, hmb, hon⟩ := hrel
     have hV2s := hon.size
     by_cases hltb : b < n
     ·have hbi : (b : Int) < (n : Int) := by omega
      obtain ⟨gb, hgb⟩ := get_ex (l := gone) (k := b) (by rw [hgl.out]; exact hltb)
      have hm1 : Hid (MF V2 (fun k => T k ∧ k < w.heap.size) N (setBlocks f (loseRow gone b (loseAll gone n f.blocks b) 0)) (.slice Ac np Cc) (.slice Ad n Cd)) := hmb
      have hgbo := hgo.out b gb hgb.out
      go_wp2
      go_loopw [45] (fun s wr => ∃ p : Nat, s = .int .i64 p ∧ p ≤ n ∧ Hid (MF wr (fun k => T k ∧ k < w.heap.size) N (setBlocks f (loseRow gone b (loseAll gone n f.blocks b) p)) (.slice Ac np Cc) (.slice Ad n Cd)) ∧ Only (fun k => T k ∧ k < w.heap.size) V1.heap.size V1 wr) (fun s _ => n - (intOf s).toNat)
      case atStart => exact ⟨0, rfl, Nat.zero_le _, hm1, hon⟩
      case round =>
       clear hm1 hmb hon
       rename World => V3
       obtain ⟨p, rfl, hp, hmp, hon3⟩ := hrel
       have hV3s := hon3.size
       by_cases hltp : p < n
       ·have hpi : (p : Int) < (n : Int) := by omega
        obtain ⟨gp, hgp⟩ := get_ex (l := gone) (k := p) (by rw [hgl.out]; exact hltp)
        have c1 := hgbo V3 hon3
        have c2 := hgo.out p gp hgp.out V3 hon3
        have hgd1 : Hid (gone.getD p false = gp) := hide (by rw [List.getD_eq_getElem?_getD, hgp.out]; rfl)
        have hgd2 : Hid (gone.getD b false = gb) := hide (by rw [List.getD_eq_getElem?_getD, hgb.out]; rfl)
        have hnx := hide (loseRow_next gone b (loseAll gone n f.blocks b) p)
        cases gp with
        | false =>
         have hm2 : Hid (MF V3 (fun k => T k ∧ k < w.heap.size) N (setBlocks f (loseRow gone b (loseAll gone n f.blocks b) (p + 1))) (.slice Ac np Cc) (.slice Ad n Cd)) := hide (by
          rw [hnx.out]
          unfold loseIf
          rw [hgd1.out]
          exact hmp.out)
         go_wp2
         go_roundw
         case rel => exact ⟨p + 1, by go_num, hltp, hm2, hon3⟩
         case measure => simp [intOf]; omega
        | true =>
         cases gb with
         | true =>
          have hm2 : Hid (MF V3 (fun k => T k ∧ k < w.heap.size) N (setBlocks f (loseRow gone b (loseAll gone n f.blocks b) (p + 1))) (.slice Ac np Cc) (.slice Ad n Cd)) := hide (by
           rw [hnx.out]
           unfold loseIf
           rw [hgd1.out, hgd2.out]
           exact hmp.out)
          go_wp2
          go_roundw
          case rel => exact ⟨p + 1, by go_num, hltp, hm2, hon3⟩
          case measure => simp [intOf]; omega
         | false =>
          have cL : Hid (Calls Try.prog 56 #[.pointer (some ⟨N, 0, none⟩), .int .i64 b, .int .i64 p] V3 fun e w' => e = .returned (.tuple #[]) ∧ Hid (MF w' (fun k => T k ∧ k < w.heap.size) N (setBlocks f (loseRow gone b (loseAll gone n f.blocks b) (p + 1))) (.slice Ac np Cc) (.slice Ad n Cd)) ∧ Only (fun k => T k ∧ k < w.heap.size) V1.heap.size V1 w') := hide (by
           have hw1 := loseAll_wf (gone := gone) (n := n) hwf.out b
           have hw2 := loseRow_wf (gone := gone) hw1.1 b p
           have hlb : (loseRow gone b (loseAll gone n f.blocks b) p)[b]? = some ((loseRow gone b (loseAll gone n f.blocks b) p).getD b []) := getD_at (by rw [hw2.2, hw1.2, ← hn.out]; exact hltb)
           refine (lose_any hmp.out b p hlb (hw2.1 _ (List.mem_of_getElem? hlb)).phi).mono ?_
           rintro e w' ⟨rfl, h1, h2⟩
           refine ⟨rfl, hide ?_, hon3.next (Nat.le_refl _) h2⟩
           rw [hnx.out]
           unfold loseIf loseB
           rw [hgd1.out, hgd2.out]
           exact h1)
          go_wp2_with (fail)
          refine cL.out.mono ?_
          rintro e w4 ⟨rfl, hm4, hon4⟩
          go_wp2
          go_roundw
          case rel => exact ⟨p + 1, by go_num, hltp, hm4, hon4⟩
          case measure => simp [intOf]; omega
       ·obtain rfl : n = p := by omega
        have hm2 : Hid (MF V3 (fun k => T k ∧ k < w.heap.size) N (setBlocks f (loseAll gone n f.blocks (b + 1))) (.slice Ac np Cc) (.slice Ad n Cd)) := hide (by
         rw [loseAll_next]
         exact hmp.out)
        go_wp2
        go_roundw
        case rel => exact ⟨b + 1, by go_num, hltb, hm2, hon3⟩
        case measure => simp [intOf]; omega
     ·obtain rfl : n = b := by omega
      have hwfA := hide (loseAll_wf (gone := gone) (n := n) hwf.out n)
      have cW : Hid (Calls Try.prog 59 #[.pointer (some ⟨N, 0, none⟩), .slice (some ⟨G, 0, none⟩) n n] V2 fun e w' => e = .returned (.tuple #[]) ∧ RulePost w T N f Cp res (.returned (.bool true)) w') := hide (by
       have hlen : (setBlocks f (loseAll gone n f.blocks n)).blocks.length = n := by show (loseAll gone n f.blocks n).length = n; rw [hwfA.out.2, ← hn.out]
       have hrow4 : V2.ownsRow 0 4 1 (.slice (some ⟨G, 0, none⟩) n n) n (gone.map Value.bool) := row_mono (row_kept hrow3.out fun k hk => hon.block k (row_lt hrow3.out hk).2.1 (by cases hk; exact hGT)) (Nat.zero_le _)
       have h9 := twithout_any hmb.out (by rw [hlen]; exact hnb) (fun l hl => (hwfA.out.1 l hl).to_) (gone := gone) (G := G) (by rw [hlen]; exact hgl.out) (by rw [hlen]; exact hrow4) hGT hGN
       rw [hlen] at h9
       refine h9.mono ?_
       rintro e w' ⟨rfl, d', h1, h2⟩
       refine ⟨rfl, ?_⟩
       rw [hfound.out]
       have hwV2 : w.heap.size ≤ V1.heap.size := hwV.size
       refine ⟨_, _, d', fun k hk => ?_, ⟨rfl, h1⟩, ?_, fun k hk => .inl (hCp.out k (by cases Ac <;> exact hk))⟩
       ·rcases hk with hk | hk
        ·exact .inl hk.1
        ·right; omega
       ·refine (Only.of_below hwV).trans (((hon.mono hwV2).more fun k _ hk => Or.inr hk.1).trans ((h2.mono (by omega)).more fun k _ hk => hk.imp_right fun h8 => h8.1)))
      go_wp2_with (fail)
      refine cW.out.mono ?_
      rintro e w9 ⟨rfl, hfin⟩
      replace hfin := hide hfin
      go_wp2
      go_ret
      exact hfin.out
end Go.Proofs.Ytamjcafjdioidaa

namespace Go.Proofs.Ytamjcafjdioidaa
open Go.RowKit
set_option linter.unusedSimpArgs false
set_option linter.unusedVariables false
def CloneIPost (l : List Int) (w : World) (e : Ending) (w' : World) : Prop := ∃ v, e = .returned v ∧ OwnI w' w.heap.size v l ∧ Below w.heap.size w w'
def CloneVPost (l : List Opd) (w : World) (e : Ending) (w' : World) : Prop := ∃ v, e = .returned v ∧ OwnV w' w.heap.size v l ∧ Below w.heap.size w w'
set_option maxRecDepth 100000 in
theorem clone_nums (v : Value) (l : List Int) (w : World) (hr : RInts.rep w w.heap.size [v] l) (hl : l.length ≤ 2000000) :
  Calls Try.prog 52 #[v] w (CloneIPost l w) := by
 obtain ⟨A, cap, hv, hl9, -⟩ := Rp.slice1_open hr
 cases hv
 obtain ⟨-, hn, hok, hs⟩ := ints_src hr
 obtain ⟨n, hnl⟩ : ∃ n, Hid (n = l.length) := ⟨_, hide rfl⟩
 rw [← hnl.out] at hl hn ⊢
 obtain ⟨i0, hi0, hz0, hz1, hz2⟩ := cinfo_parts cinfo_int
 replace hi0 := hide hi0
 replace hz0 := hide hz0
 replace hz1 := hide hz1
 replace hz2 := hide hz2
 replace hok := hide hok
 replace hn := hide hn
 have hb0 := (Below.refl w.heap.size w).alloc (Nat.le_refl _) (.cells #[] 3)
 have hsrc := hide (hs _ hb0)
 have hown0 := hide (World.ownsRow_lit (base := w.heap.size) (e := 3) (size := 1) w #[] 0 (Nat.le_refl _) (Nat.zero_le _) rfl)
 replace hb0 := hide hb0
 clear hs hr
 cases A with
 | none =>
  have hl0 : l = [] := List.eq_nil_of_length_eq_zero (by have := hn.out rfl; have := hnl.out; omega)
  have hnil : ∀ w' : World, (binOp .eql 29 (.slice none n cap) (.slice none 0 0)).run Try.prog w' = .ok (.bool true) w' := fun w' => Lib.run_eql_slice_nil w' _ _ _ _ _ _ _ Try.underlying29
  replace hl0 := hide hl0
  go_enter Try.func52, Try.ntmps52
  go_wp2
  go_ret
  exact ⟨_, rfl, by rw [hl0.out]; exact OwnI.nil_, Below.refl _ _⟩
 | some ad =>
  have hnil : ∀ w' : World, (binOp .eql 29 (.slice (some ad) n cap) (.slice none 0 0)).run Try.prog w' = .ok (.bool false) w' := fun w' => Lib.run_eql_slice_nil w' _ _ _ _ _ _ _ Try.underlying29
  go_enter Try.func52, Try.ntmps52
  go_wp2_with (at_builtin; refine wpList_append_any _ rfl (.tmp 5) (.tmp 6) _ rfl w.heap.size 3 i0 _ 1 8 Try.underlying29 hi0.out hz0.out hz1.out hz2.out rfl (by omega) (.slice (some ⟨w.heap.size, 0, none⟩) 0 0) 0 [] rfl hown0.out (some ad) n cap (l.map fun z => Value.int .i64 z) rfl (by rw [List.length_map, ← hnl.out]; omega) (fun e => by cases e) hsrc.out (ints_one _) (by unfold maxLen; omega) (by omega) (by simp) ?_; intro v1 Y hownY hgY; replace hownY := hide hownY; replace hgY := hide hgY)
  go_wp2
  go_ret
  refine ⟨v1, rfl, ⟨?_, hok.out⟩, hb0.out.grown hgY.out (by simp) (fun k hk => by simp [Value.ownBlock] at hk; omega)⟩
  have := hownY.out
  rw [Nat.zero_add, List.nil_append, hnl.out] at this
  exact this
set_option maxRecDepth 100000 in
theorem clone_vals (v : Value) (l : List Opd) (w : World) (hr : ROpds.rep w w.heap.size [v] l) (hl : l.length ≤ 2000000) :
  Calls Try.prog 53 #[v] w (CloneVPost l w) := by
 obtain ⟨A, cap, hv, hl9, -⟩ := Rp.slice_open hr
 cases hv
 obtain ⟨-, hn, hok, hs⟩ := opds_src hr
 obtain ⟨n, hnl⟩ : ∃ n, Hid (n = l.length) := ⟨_, hide rfl⟩
 rw [← hnl.out] at hl hn ⊢
 obtain ⟨i0, hi0, hz0, hz1, hz2⟩ := cinfo_parts cinfo_Value
 replace hi0 := hide hi0
 replace hz0 := hide hz0
 replace hz1 := hide hz1
 replace hz2 := hide hz2
 replace hok := hide hok
 replace hn := hide hn
 have hb0 := (Below.refl w.heap.size w).alloc (Nat.le_refl _) (.cells #[] 42)
 have hsrc := hide (hs _ hb0)
 have hown0 := hide (World.ownsRow_lit (base := w.heap.size) (e := 42) (size := 3) w #[] 0 (Nat.le_refl _) (Nat.zero_le _) rfl)
 replace hb0 := hide hb0
 clear hs hr
 cases A with
 | none =>
  have hl0 : l = [] := List.eq_nil_of_length_eq_zero (by have := hn.out rfl; have := hnl.out; omega)
  have hnil : ∀ w' : World, (binOp .eql 37 (.slice none n cap) (.slice none 0 0)).run Try.prog w' = .ok (.bool true) w' := fun w' => Lib.run_eql_slice_nil w' _ _ _ _ _ _ _ Try.underlying37
  replace hl0 := hide hl0
  go_enter Try.func53, Try.ntmps53
  go_wp2
  go_ret
  exact ⟨_, rfl, by rw [hl0.out]; exact OwnV.nil_, Below.refl _ _⟩
 | some ad =>
  have hnil : ∀ w' : World, (binOp .eql 37 (.slice (some ad) n cap) (.slice none 0 0)).run Try.prog w' = .ok (.bool false) w' := fun w' => Lib.run_eql_slice_nil w' _ _ _ _ _ _ _ Try.underlying37
  go_enter Try.func53, Try.ntmps53
  go_wp2_with (at_builtin; refine wpList_append_any _ rfl (.tmp 5) (.tmp 6) _ rfl w.heap.size 42 i0 _ 3 24 Try.underlying37 hi0.out hz0.out hz1.out hz2.out rfl (by omega) (.slice (some ⟨w.heap.size, 0, none⟩) 0 0) 0 [] rfl hown0.out (some ad) n cap (l.flatMap oc) rfl (by rw [oc_len, ← hnl.out]) (fun e => by cases e) hsrc.out (oc_one _) (by unfold maxLen; omega) (by omega) (by simp) ?_; intro v1 Y hownY hgY; replace hownY := hide hownY; replace hgY := hide hgY)
  go_wp2
  go_ret
  refine ⟨v1, rfl, ⟨?_, hok.out⟩, hb0.out.grown hgY.out (by simp) (fun k hk => by simp [Value.ownBlock] at hk; omega)⟩
  have := hownY.out
  rw [Nat.zero_add, List.nil_append, hnl.out] at this
  exact this
end Go.Proofs.Ytamjcafjdioidaa
