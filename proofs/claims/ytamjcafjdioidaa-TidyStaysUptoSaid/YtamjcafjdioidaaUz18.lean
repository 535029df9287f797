/- Texts of the chain, without what is not wanted: TdE. No condition but sizes. -/
import Derived.WalkKit
import Derived.Deep.Slices
import Derived.Deep.Draws
import Derived.ChangeSame
import Derived.ChangeOld
import Derived.OwnWalk
import Derived.Laws.OwnMore
import Derived.Deep.AppendLies
import Derived.Test.YtamjcafjdioidaaRows
import Derived.ProofKit
import Derived.OpenShut
import Derived.JoinedCond
import Derived.WalkSpells
import Derived.WalkLawsBesides
import Derived.Deep.RegionHeld3
import Derived.Deep.LoopGhost
import Derived.Deep.QuietTactic
import Derived.BigQuiet
import Derived.Deep.DeepCutAuto
import Derived.Deep.CutBlock
import Derived.StillTailTactics
import Derived.Deep.RegionLaw
import Derived.Lib.SliceRun
import Derived.Laws.IdiomCopy
import Derived.Test.YtamjcafjdioidaaUz01
import Derived.Test.YtamjcafjdioidaaUz02
import Derived.Test.YtamjcafjdioidaaUz03
import Derived.Test.YtamjcafjdioidaaUz04
import Derived.Test.YtamjcafjdioidaaUz05
import Derived.Test.YtamjcafjdioidaaUz06
import Derived.Test.YtamjcafjdioidaaUz07
import Derived.Test.YtamjcafjdioidaaUz08
import Derived.Test.YtamjcafjdioidaaUz09
import Derived.Test.YtamjcafjdioidaaUz13
import Derived.Test.YtamjcafjdioidaaUz14
import Derived.Test.YtamjcafjdioidaaUz15
import Derived.Test.YtamjcafjdioidaaUz16
import Derived.Test.YtamjcafjdioidaaUz17
namespace Go.Proofs.Ytamjcafjdioidaa
open Go.RowKit
set_option linter.unusedSimpArgs false
set_option linter.unusedVariables false
set_option maxRecDepth 100000 in
set_option maxHeartbeats 6400000 in
theorem twithout_any {w : World} {T : Nat → Prop} {N : Nat} {f : Fun} {c d : Value} (h : MF w T N f c d) (hs : f.blocks.length ≤ 2000000) (hwf : ∀ l, l ∈ f.blocks → ∀ x, x ∈ l → ∀ t, t ∈ x.to → 0 ≤ t ∧ t < f.blocks.length) {G : Nat} {gone : List Bool} (hgl : gone.length = f.blocks.length)
  (hG : w.ownsRow 0 4 1 (.slice (some ⟨G, 0, none⟩) f.blocks.length f.blocks.length) f.blocks.length (gone.map Value.bool)) (hGT : ¬ T G) (hGN : G ≠ N) :
  Calls Try.prog 59 #[.pointer (some ⟨N, 0, none⟩), .slice (some ⟨G, 0, none⟩) f.blocks.length f.blocks.length] w fun e w' => e = .returned (.tuple #[]) ∧ ∃ d', MF w' (fun k => T k ∨ w.heap.size ≤ k) N (setBlocks f (withoutS gone f.blocks)) c d' ∧ Only (fun k => k = N ∨ T k) w.heap.size w w' := by
 have hcut := h.cut
 obtain ⟨T0, hT0⟩ : ∃ T0 : Nat → Prop, T0 = fun k => T k ∧ k < w.heap.size := ⟨_, rfl⟩
 rw [← hT0] at hcut
 have hT0T : Hid (∀ k, T0 k → T k ∧ k < w.heap.size) := hide (fun k hk => by rw [hT0] at hk; exact hk)
 have hGT0 : ¬ T0 G := fun h9 => hGT (hT0T.out G h9).1
 have hparc : Hid (∀ k, c.ownBlock = some k → ¬ T k ∧ k < w.heap.size) := hide (fun k hk => ⟨(h.far k hk).1, (row_lt h.par.row hk).2.1⟩)
 have houtT := h.out
 clear hT0
 obtain ⟨xs, ess, hk, hT⟩ := hcut.tree
 obtain ⟨n, hn⟩ : ∃ n, Hid (n = f.blocks.length) := ⟨_, hide rfl⟩
 have hnb : n ≤ 2000000 := by rw [hn.out]; exact hs
 obtain ⟨Ad, Cd, hdf⟩ := row_form hk.row
 subst hdf
 have hNlt := h.lt
 have hbox := h.box
 have c3 := box_cell9 hbox 3 rfl
 have hGlt : G < w.heap.size := (row_lt hG rfl).2.1
 have hgr : Hid (∀ k g, gone[k]? = some g → w.cell? ⟨G, k, none⟩ = some (.bool g)) := hide (fun k g hg => OwnB.cell hG hg (by have := (List.getElem?_eq_some_iff.1 hg).1; omega))
 rw [← hn.out] at c3 hk ⊢
 rw [← hn.out] at hgl
 have hout := h.out
 have hself := Below.refl w.heap.size w
 have c3b := be_fact c3 hNlt
 obtain ⟨i0, hi0, hz0, hz1, hz2⟩ := cinfo_parts cinfo_int
 replace hi0 := hide hi0
 replace hz0 := hide hz0
 replace hz1 := hide hz1
 replace hz2 := hide hz2
 obtain ⟨p0, hp0, hp1, hp2, hp3⟩ := cinfo_parts cinfo_Block
 replace hp0 := hide hp0
 replace hp1 := hide hp1
 replace hp2 := hide hp2
 replace hp3 := hide hp3
 replace h := hide h
 replace hcut := hide hcut
 replace hk := hide hk
 replace hT := hide hT
 replace hbox := hide hbox
 replace hwf := hide hwf
 replace hs := hide hs
 replace hgl := hide hgl
 replace hG := hide hG
 go_enter Try.func59, Try.ntmps59
 go_wp2_with (at_make; refine wpList_make_full _ rfl (.tmp 17) (.tmp 17) _ rfl w.heap.size 3 i0 _ 1 Try.underlying29 hi0.out hz0.out hz1.out .i64 .i64 n n n rfl rfl rfl rfl ?c1 ?c2 (Nat.le_refl _) ?_)
 case c1 => rw [hz2.out]; omega
 case c2 => unfold maxLen; omega
 intro w1 hown1 hg1
 have hb1 := below_grown0 hg1
 have hN0 : Hid (OwnN w1 w.heap.size w.heap.size n (atL gone n 0)) := hide (by rw [atL_zero]; exact made_zeros hown1)
 have hw1s : w.heap.size < w1.heap.size := hN0.out.lt.2
 replace hown1 := hide hown1
 replace hg1 := hide hg1
 obtain ⟨gat, hgat⟩ : ∃ gat, Hid (gat = w.heap.size) := ⟨_, hide rfl⟩
 rw [← hgat.out]
 have hN0 : Hid (OwnN w1 w.heap.size gat n (atL gone n 0)) := hide (by rw [hgat.out]; exact hN0.out)
 have hl0 : Hid ((leftN gone 0 : Nat) = 0) := hide (by simp [leftN])
 clear hself c3
 go_wp2
 go_loopw [5, 21] (fun s5 s wr => ∃ i : Nat, s5 = .int .i64 (leftN gone i : Int) ∧ s = .int .i64 i ∧ i ≤ n ∧ Hid (OwnN wr w.heap.size gat n (atL gone n i)) ∧ Below w.heap.size w wr) (fun _ s _ => n - (intOf s).toNat)
 case atStart => exact ⟨0, by rw [hl0.out]; rfl, rfl, Nat.zero_le _, hN0, hb1⟩
 case round =>
  clear hN0 hb1
  rename World => V
  obtain ⟨i, rfl, rfl, hi, hNV, hbV⟩ := hrel
  have hVs := hbV.size
  by_cases hlt : i < n
  ·have hii : (i : Int) < (n : Int) := by omega
   obtain ⟨gb, hgb⟩ := get_ex (l := gone) (k := i) (by rw [hgl.out]; exact hlt)
   have hgc := be_fact (hgr.out i gb hgb.out) hGlt
   have hz : (atL gone n i)[i]? = some 0 := by
    unfold atL
    rw [List.getElem?_append_right (by simp), List.length_map, List.length_range, Nat.sub_self, List.getElem?_replicate, if_pos (by omega)]
   have r1 := hNV.out.cell hz
   have r2 := hNV.out.free i
   have hN2 := hide (by have h9 := hNV.out.set_ i (leftN gone i : Int); rwa [atL_next hlt] at h9)
   have hgatw : w.heap.size ≤ gat := by have := hgat.out; omega
   have hbV2 : Below w.heap.size w (V.setCell ⟨gat, i, none⟩ (.int .i64 (leftN gone i : Int))) := hbV.setCell hgatw _
   have hnx := hide (leftN_next hgb.out)
   have hle := leftN_le gone i
   have hgcV := hgc _ hbV2
   replace hgb := hide hgb
   clear hz hgc
   cases gb with
   | true =>
    have hnx2 : Hid (leftN gone (i + 1) = leftN gone i) := hide (by rw [hnx.out]; rfl)
    go_wp2
    go_roundw
    case rel => exact ⟨i + 1, by rw [hnx2.out], by go_num, hlt, hN2, hbV2⟩
    case measure => simp [intOf]; omega
   | false =>
    have hnx2 : Hid (leftN gone (i + 1) = leftN gone i + 1) := hide (by rw [hnx.out]; rfl)
    go_wp2
    go_roundw
    case rel => exact ⟨i + 1, by rw [hnx2.out]; go_num, by go_num, hlt, hN2, hbV2⟩
    case measure => simp [intOf]; omega
  ·obtain rfl : n = i := by omega
   obtain ⟨V1, hV1⟩ : ∃ V1, Hid (V1 = V) := ⟨_, hide rfl⟩
   rw [← hV1.out] at hNV hbV hVs ⊢
   clear hV1
   have c3V := c3b V1 hbV
   have hatlt : gat < V1.heap.size := hNV.out.lt.2
   have hTat : ¬ T0 gat := fun h9 => by have := (hT0T.out gat h9).2; have := hgat.out; omega
   have hT0lt : Hid (∀ k, T0 k → k < V1.heap.size) := hide (fun k hk => by have := (hT0T.out k hk).2; omega)
   have hNlt1 : N < V1.heap.size := by omega
   have hGlt1 : G < V1.heap.size := by omega
   have c3o : ∀ w', Only T0 V1.heap.size V1 w' → w'.cell? ⟨N, 3, none⟩ = some (.slice Ad n Cd) := on_fact c3V hNlt1 hcut.out.out
   have hgo : Hid (∀ k g, gone[k]? = some g → ∀ w', Only T0 V1.heap.size V1 w' → w'.cell? ⟨G, k, none⟩ = some (.bool g)) := hide (fun k g hg => on_fact (be_fact (hgr.out k g hg) hGlt V1 hbV) hGlt1 hGT0)
   have hao : Hid (∀ k z, (atL gone n n)[k]? = some z → ∀ w', Only T0 V1.heap.size V1 w' → w'.cell? ⟨gat, k, none⟩ = some (.int .i64 z)) := hide (fun k z hz => on_fact (hNV.out.cell hz) hatlt hTat)
   have hk0 : Hid (OwnKd V1 0 (.slice Ad n Cd) (renB gone f.blocks 0) xs ess) := hide (by rw [renB_zero]; exact hk.out.kept fun k _ hk => hbV.block k hk)
   have hr0 : Hid (V1.ownsRow V1.heap.size 36 1 (.slice none 0 0) (leftN gone 0) ((keptN gone 0).map fun k => xs.getD k (.slice none 0 0))) := hide ⟨by simp [keptN, leftN], .inl ⟨rfl, by simp [leftN]⟩⟩
   have hl1 : Hid ((0 : Nat) = leftN gone 0) := hide hl0.out.symm
   have hon0 : Only T0 V1.heap.size V1 V1 := Only.refl _ _ _
   replace hNV := hide hNV
   go_wp2
   go_loopw [7, 41] (fun s7 s wr => ∃ (b : Nat) (A : Option Addr) (C : Nat), s7 = .slice A (leftN gone b) C ∧ s = .int .i64 b ∧ b ≤ n ∧ Hid (OwnKd wr 0 (.slice Ad n Cd) (renB gone f.blocks b) xs ess) ∧ Hid (wr.ownsRow V1.heap.size 36 1 (.slice A (leftN gone b) C) (leftN gone b) ((keptN gone b).map fun k => xs.getD k (.slice none 0 0))) ∧ Only T0 V1.heap.size V1 wr) (fun _ s _ => n - (intOf s).toNat)
   case atStart => exact ⟨0, none, 0, by rw [← hl1.out], rfl, Nat.zero_le _, hk0, hr0, hon0⟩
   case round =>
    clear hk0 hr0 hon0
    rename World => V2
    obtain ⟨b, A, C, rfl, rfl, hb, hkb, hrb, hon⟩ := hrel
    have hV2s := hon.size
    by_cases hltb : b < n
    ·have hbi : (b : Int) < (n : Int) := by omega
     obtain ⟨gb, hgb⟩ := get_ex (l := gone) (k := b) (by rw [hgl.out]; exact hltb)
     obtain ⟨l, hl⟩ := get_ex (l := f.blocks) (k := b) (by rw [← hn.out]; exact hltb)
     have hwl := hide (hwf.out l (List.mem_of_getElem? hl.out))
     obtain ⟨x, es, hx, he, hcd⟩ := hkb.out.row_at (renB_at (gone := gone) hl.out (Nat.le_refl b))
     obtain ⟨gd, CD9, hgdf, -, hgd⟩ := hkb.out.row.form (by rw [renB_len, ← hn.out]; omega)
     rw [renB_len, ← hn.out] at hgdf
     cases hgdf
     have hxc := hkb.out.blk_cell hx
     obtain ⟨Ax, Cx, hxf⟩ := row_form hcd.row
     subst hxf
     obtain ⟨m, hm⟩ : ∃ m, Hid (m = l.length) := ⟨_, hide rfl⟩
     rw [← hm.out] at hx hxc
     have hmb : m ≤ 9223372036854775807 := by rw [hm.out]; exact row_bound hcd.row
     have hlenb := leftN_le gone b
     have c3V2 := c3o V2 hon
     obtain ⟨X, hX, hwX, hXs, hxx⟩ := boxes1 V2 #[.slice Ax m Cx] 36
     have hbx := hxx 0 _ rfl
     have honX : Only T0 V1.heap.size V1 X := hon.then_below (Nat.le_refl _) hwX
     have hkX := hide (hkb.out.kept (w' := X) fun k _ hk => hwX.block k hk)
     have hrX := hide (row_kept hrb.out (w' := X) fun k hk => hwX.block k (row_lt hrb.out hk).2.1)
     have gcX := hgo.out b gb hgb.out X honX
     have hXlt : V2.heap.size < X.heap.size := by omega
     have hTX : ¬ T0 V2.heap.size := fun h9 => by have := hT0lt.out _ h9; omega
     have hbxo : ∀ w', Only T0 X.heap.size X w' → w'.cell? ⟨V2.heap.size, 0, none⟩ = some (.slice Ax m Cx) := on_fact (hbx X (Below.refl _ _)) hXlt hTX
     have hXV : Hid (∀ w', Only T0 X.heap.size X w' → Only T0 V1.heap.size V1 w') := hide (fun w' h9 => honX.next (Nat.le_refl _) h9)
     have hkn := hide (keptN_next hgb.out)
     have hln := hide (leftN_next hgb.out)
     replace hx := hide hx
     replace he := hide he
     replace hcd := hide hcd
     replace hgb := hide hgb
     replace hwX := hide hwX
     replace hXs := hide hXs
     replace hX := hide hX
     clear hxx hbx
     go_upto_region 13 with (fail)
     rw [hX.out]
     clear hX hxc c3V2
     cases gb with
     | true =>
      have hk2 : Hid (OwnKd X 0 (.slice (some ⟨gd, 0, none⟩) n Cd) (renB gone f.blocks (b + 1)) xs ess) := hide (by rw [← renB_gone hgb.out]; exact hkX.out)
      have hl2 : Hid (leftN gone (b + 1) = leftN gone b) := hide (by rw [hln.out]; rfl)
      have hr2 : Hid (X.ownsRow V1.heap.size 36 1 (.slice A (leftN gone (b + 1)) C) (leftN gone (b + 1)) ((keptN gone (b + 1)).map fun k => xs.getD k (.slice none 0 0))) := hide (by
       rw [hl2.out, hkn.out]
       simpa using hrX.out)
      go_wp2
      go_roundw
      case rel => exact ⟨b + 1, A, C, by rw [hl2.out], by go_num, hltb, hk2, hr2, honX⟩
      case measure => simp [intOf]; omega
     | false =>
      have hk3 : Hid (OwnKd X 0 (.slice (some ⟨gd, 0, none⟩) n Cd) ((renB gone f.blocks b).set b (renL gone l 0)) xs ess) := hide (by
       rw [renL_zero, set_self (renB_at hl.out (Nat.le_refl b))]
       exact hkX.out)
      have honX0 : Only T0 X.heap.size X X := Only.refl _ _ _
      have hbx0 := hbxo X honX0
      go_wp2
      go_loopw [53] (fun s wr => ∃ i : Nat, s = .int .i64 i ∧ i ≤ m ∧ Hid (OwnKd wr 0 (.slice (some ⟨gd, 0, none⟩) n Cd) ((renB gone f.blocks b).set b (renL gone l i)) xs ess) ∧ Only T0 X.heap.size X wr) (fun s _ => m - (intOf s).toNat)
      case atStart => exact ⟨0, rfl, Nat.zero_le _, hk3, honX0⟩
      case round =>
       clear hk3 honX0 hbx0
       rename World => V3
       obtain ⟨i, rfl, hi3, hki, honi⟩ := hrel
       have hV3s := honi.size
       by_cases hlti : i < m
       ·have hii3 : (i : Int) < (m : Int) := by omega
        obtain ⟨ins, hins⟩ := get_ex (l := l) (k := i) (by rw [← hm.out]; exact hlti)
        have hbset : Hid (((renB gone f.blocks b).set b (renL gone l i))[b]? = some (renL gone l i)) := hide (by rw [List.getElem?_set_self (by rw [renB_len, ← hn.out]; exact hltb)])
        have hcdi := hki.out.inn b _ _ es hx.out hbset.out he.out
        obtain ⟨gc, CX9, hgcf, -, hgcl⟩ := hcdi.row.form (by rw [renL_len, ← hm.out]; omega)
        rw [renL_len, ← hm.out] at hgcf
        cases hgcf
        have hri : Hid ((renL gone l i)[i]? = some ins) := hide (renL_at hins.out)
        obtain ⟨ca, ct, hei, hva, hvt, hok⟩ := hcdi.ins_at hri.out
        obtain ⟨At, Ct, hct⟩ := row_form hvt.row
        subst hct
        obtain ⟨nt, hnt⟩ : ∃ nt, Hid (nt = ins.to.length) := ⟨_, hide rfl⟩
        rw [← hnt.out] at hei
        have hntb : nt ≤ 9223372036854775807 := by rw [hnt.out]; exact row_bound hvt.row
        have e6 := hcdi.cell_at hri.out hei (j := 6) rfl
        have hbx3 := hbxo V3 honi
        have hTgc : Hid (∀ k, T0 k → k = k) := hide (fun _ _ => rfl)
        have e6o : ∀ (w' : World), w'.heap[gc]? = V3.heap[gc]? → w'.cell? ⟨gc, i * 7 + 6, none⟩ = some (.slice At nt Ct) := fun w' h9 => (World.cell?_of_block (w := V3) h9).trans e6
        have hki0 : Hid (OwnKd V3 0 (.slice (some ⟨gd, 0, none⟩) n Cd) ((renB gone f.blocks b).set b ((renL gone l i).set i (renX gone ins 0))) xs ess ∧ V3.heap[gc]? = V3.heap[gc]?) := hide ⟨by
         rw [renX_zero, set_self hri.out]
         exact hki.out, rfl⟩
        replace hei := hide hei
        replace hva := hide hva
        replace hvt := hide hvt
        replace hok := hide hok
        replace hcdi := hide hcdi
        have e6h := hide e6o
        clear e6o
        go_wp2
        go_loopw [63] (fun s wr => ∃ k : Nat, s = .int .i64 k ∧ k ≤ nt ∧ Hid (OwnKd wr 0 (.slice (some ⟨gd, 0, none⟩) n Cd) ((renB gone f.blocks b).set b ((renL gone l i).set i (renX gone ins k))) xs ess ∧ wr.heap[gc]? = V3.heap[gc]?) ∧ Only T0 X.heap.size X wr) (fun s _ => nt - (intOf s).toNat)
        case atStart => exact ⟨0, rfl, Nat.zero_le _, hide ⟨hki0.out.1, rfl⟩, honi⟩
        case round =>
         clear hki0 e6 hbx3
         rename World => V4
         obtain ⟨k, rfl, hk4, hkk, hon4⟩ := hrel
         have hV4s := hon4.size
         by_cases hltk : k < nt
         ·have hkk3 : (k : Int) < (nt : Int) := by omega
          obtain ⟨t, ht⟩ := get_ex (l := ins.to) (k := k) (by rw [← hnt.out]; exact hltk)
          obtain ⟨tn, htn, htnn⟩ : ∃ tn : Nat, t = (tn : Int) ∧ tn < n := by
           have h9 := hwl.out ins (List.mem_of_getElem? hins.out) t (List.mem_of_getElem? ht.out)
           obtain ⟨tn, e⟩ := Int.eq_ofNat_of_zero_le h9.1
           exact ⟨tn, e, by have := hn.out; have := h9.2; omega⟩
          subst htn
          have htni : (tn : Int) < (n : Int) := by omega
          have hbset4 : Hid (((renB gone f.blocks b).set b ((renL gone l i).set i (renX gone ins k)))[b]? = some ((renL gone l i).set i (renX gone ins k))) := hide (by rw [List.getElem?_set_self (by rw [renB_len, ← hn.out]; exact hltb)])
          have hcd4 := hkk.out.1.inn b _ _ es hx.out hbset4.out he.out
          have hri4 : Hid (((renL gone l i).set i (renX gone ins k))[i]? = some (renX gone ins k)) := hide (by rw [List.getElem?_set_self (by rw [renL_len, ← hm.out]; exact hlti)])
          obtain ⟨ca4, ct4, hei4, hva4, hvt4, hok4⟩ := hcd4.ins_at hri4.out
          rw [hei.out] at hei4
          cases hei4
          obtain ⟨gt, CT9, htf, -, hgtl⟩ := hvt4.row.form (by rw [renX_to, ← hnt.out]; omega)
          rw [renX_to, ← hnt.out] at htf
          cases htf
          have hTgt : T0 gt := by
           have h9 := hT.out gt (.inr (.inr ⟨es, _, List.mem_of_getElem? he.out, List.mem_of_getElem? hei.out, .inr rfl⟩))
           exact h9
          have q1 : V4.cell? ⟨gt, k, none⟩ = some (.int .i64 (tn : Int)) := by
           have hvr := hvt4.row
           rw [renX_to, ← hnt.out] at hvr
           rw [World.ownsRow.cellAt hvr k (by omega), List.getElem?_map, renX_at ht.out]
           rfl
          have q2 : V4.frozen? ⟨gt, k, none⟩ = false := row_free hvt4.row k
          have q6 := e6h.out V4 hkk.out.2
          have qb := hbxo V4 hon4
          have qa := hao.out tn _ (atL_end htnn) V4 (hXV.out V4 hon4)
          have hren : Hid (renT gone (tn : Int) = (leftN gone tn : Int)) := hide (by unfold renT; rw [Int.toNat_natCast])
          have hI : Hid (I64 (leftN gone tn : Int)) := hide (by have := leftN_le gone tn; exact i64_mk (by omega) (by omega))
          have hk5 : Hid (∀ w', w' = V4.drew → OwnKd (w'.setCell ⟨gt, k, none⟩ (.int .i64 (leftN gone tn : Int))) 0 (.slice (some ⟨gd, 0, none⟩) n Cd) ((renB gone f.blocks b).set b ((renL gone l i).set i (renX gone ins (k + 1)))) xs ess ∧ (w'.setCell ⟨gt, k, none⟩ (.int .i64 (leftN gone tn : Int))).heap[gc]? = V3.heap[gc]?) := hide (fun w' hw' => by
           have hk6 : OwnKd w' 0 (.slice (some ⟨gd, 0, none⟩) n Cd) ((renB gone f.blocks b).set b ((renL gone l i).set i (renX gone ins k))) xs ess := by rw [hw']; exact hkk.out.1.kept fun _ _ _ => rfl
           have h9 := hk6.put_to (z := (leftN gone tn : Int)) hbset4.out he.out hri4.out hei.out (by rw [renX_to, ← hnt.out]; exact hltk) hI.out
           rw [List.set_set, List.set_set, ← hren.out, renX_next ht.out] at h9
           refine ⟨by rw [← hren.out]; exact h9, ?_⟩
           have hne : gc ≠ gt := ty_ne (row_lt hcd4.row rfl).2.2 (row_lt hvt4.row rfl).2.2 (by decide)
           rw [Below.heap_setCell w' ⟨gt, k, none⟩ _ gc hne, hw']
           exact hkk.out.2)
          replace hva4 := hide hva4
          replace hvt4 := hide hvt4
          replace hok4 := hide hok4
          replace hcd4 := hide hcd4
          go_upto_region 20 with (fail)
          refine wp_region_U (S := fun u => u = V4.drew) (T := fun j => decide (j < 11)) (by kernel_rfl) ?_
          have q1d : V4.drew.cell? ⟨gt, k, none⟩ = some (.int .i64 (tn : Int)) := q1
          have q2d : V4.drew.frozen? ⟨gt, k, none⟩ = false := q2
          have q6d : V4.drew.cell? ⟨gc, i * 7 + 6, none⟩ = some (.slice (some ⟨gt, 0, none⟩) nt Ct) := q6
          have qbd : V4.drew.cell? ⟨V2.heap.size, 0, none⟩ = some (.slice (some ⟨gc, 0, none⟩) m Cx) := qb
          have qad : V4.drew.cell? ⟨gat, tn, none⟩ = some (.int .i64 (leftN gone tn : Int)) := qa
          have hon5 : Only T0 X.heap.size X (V4.drew.setCell ⟨gt, k, none⟩ (.int .i64 (leftN gone tn : Int))) := hon4.drew.setCell (p := ⟨gt, k, none⟩) (.inl hTgt) _
          clear q1 q2 q6 qb qa
          obtain ⟨U0, hU0⟩ : ∃ U0, V4.drew = U0 := ⟨_, rfl⟩
          rw [hU0] at q1d q2d q6d qbd qad hon5 ⊢
          have hS0 : Hid (U0 = U0) := hide rfl
          have hk7 := hide (hk5.out U0 hU0.symm)
          clear hk5 hU0
          refine wpAnyU_take (i := 0) (v := ?_) (by simp only [List.getElem?_toArray, List.getElem?_cons_succ, List.getElem?_cons_zero]; rfl) (by kernel_rfl) (by kernel_rfl) (by kernel_rfl) (by kernel_rfl) (by exact fun _ _ _ h => h) (Or.inl ⟨by rfl, ?_⟩) (by exact rfl) ?_
          rotate_left
          ·intro w9 hSw
           go_simp
           all_goals with_reducible rfl
          try simp only [Act.put, List.setIfInBounds_toArray, List.set_cons_zero, List.set_cons_succ]
          refine wpAnyU_take (i := 1) (v := ?_) (by simp only [List.getElem?_toArray, List.getElem?_cons_succ, List.getElem?_cons_zero]; rfl) (by kernel_rfl) (by kernel_rfl) (by kernel_rfl) (by kernel_rfl) (by exact fun _ _ _ h => h) (Or.inl ⟨by rfl, ?_⟩) (by exact rfl) ?_
          rotate_left
          ·intro w9 hSw
           go_simp
           all_goals with_reducible rfl
          try simp only [Act.put, List.setIfInBounds_toArray, List.set_cons_zero, List.set_cons_succ]
          refine wpAnyU_take (i := 2) (v := ?_) (by simp only [List.getElem?_toArray, List.getElem?_cons_succ, List.getElem?_cons_zero]; rfl) (by kernel_rfl) (by kernel_rfl) (by kernel_rfl) (by kernel_rfl) (by exact fun _ _ _ h => h) (Or.inl ⟨by rfl, ?_⟩) (by exact rfl) ?_
          rotate_left
          ·intro w9 hSw
           go_simp
           all_goals with_reducible rfl
          try simp only [Act.put, List.setIfInBounds_toArray, List.set_cons_zero, List.set_cons_succ]
          refine wpAnyU_take (i := 3) (v := ?_) (by simp only [List.getElem?_toArray, List.getElem?_cons_succ, List.getElem?_cons_zero]; rfl) (by kernel_rfl) (by kernel_rfl) (by kernel_rfl) (by kernel_rfl) (by exact fun _ _ _ h => h) (Or.inl ⟨by rfl, ?_⟩) (by exact rfl) ?_
          rotate_left
          ·intro w9 hSw
           go_simp
           all_goals with_reducible rfl
          try simp only [Act.put, List.setIfInBounds_toArray, List.set_cons_zero, List.set_cons_succ]
          refine wpAnyU_take (i := 4) (v := ?_) (by simp only [List.getElem?_toArray, List.getElem?_cons_succ, List.getElem?_cons_zero]; rfl) (by kernel_rfl) (by kernel_rfl) (by kernel_rfl) (by kernel_rfl) (by exact fun _ _ _ h => h) (Or.inl ⟨by rfl, ?_⟩) (by exact rfl) ?_
          rotate_left
          ·intro w9 hSw
           go_simp
           all_goals with_reducible rfl
          try simp only [Act.put, List.setIfInBounds_toArray, List.set_cons_zero, List.set_cons_succ]
          refine wpAnyU_take (i := 5) (v := ?_) (by simp only [List.getElem?_toArray, List.getElem?_cons_succ, List.getElem?_cons_zero]; rfl) (by kernel_rfl) (by kernel_rfl) (by kernel_rfl) (by kernel_rfl) (by exact fun _ _ _ h => h) (Or.inl ⟨by rfl, ?_⟩) (by exact rfl) ?_
          rotate_left
          ·intro w9 hSw
           go_simp
           all_goals with_reducible rfl
          try simp only [Act.put, List.setIfInBounds_toArray, List.set_cons_zero, List.set_cons_succ]
          refine wpAnyU_take (i := 6) (v := ?_) (by simp only [List.getElem?_toArray, List.getElem?_cons_succ, List.getElem?_cons_zero]; rfl) (by kernel_rfl) (by kernel_rfl) (by kernel_rfl) (by kernel_rfl) (by exact fun _ _ _ h => h) (Or.inl ⟨by rfl, ?_⟩) (by exact rfl) ?_
          rotate_left
          ·intro w9 hSw
           go_simp
           all_goals with_reducible rfl
          try simp only [Act.put, List.setIfInBounds_toArray, List.set_cons_zero, List.set_cons_succ]
          refine wpAnyU_take (i := 7) (v := ?_) (by simp only [List.getElem?_toArray, List.getElem?_cons_succ, List.getElem?_cons_zero]; rfl) (by kernel_rfl) (by kernel_rfl) (by kernel_rfl) (by kernel_rfl) (by exact fun _ _ _ h => h) (Or.inl ⟨by rfl, ?_⟩) (by exact rfl) ?_
          rotate_left
          ·intro w9 hSw
           go_simp
           all_goals with_reducible rfl
          try simp only [Act.put, List.setIfInBounds_toArray, List.set_cons_zero, List.set_cons_succ]
          refine wpAnyU_take (i := 8) (v := ?_) (by simp only [List.getElem?_toArray, List.getElem?_cons_succ, List.getElem?_cons_zero]; rfl) (by kernel_rfl) (by kernel_rfl) (by kernel_rfl) (by kernel_rfl) (by exact fun _ _ _ h => h) (Or.inl ⟨by rfl, ?_⟩) (by exact rfl) ?_
          rotate_left
          ·intro w9 hSw
           go_simp
           all_goals with_reducible rfl
          try simp only [Act.put, List.setIfInBounds_toArray, List.set_cons_zero, List.set_cons_succ]
          refine wpAnyU_take (i := 9) (v := ?_) (by simp only [List.getElem?_toArray, List.getElem?_cons_succ, List.getElem?_cons_zero]; rfl) (by kernel_rfl) (by kernel_rfl) (by kernel_rfl) (by kernel_rfl) (by exact fun _ _ _ h => h) (Or.inl ⟨by rfl, ?_⟩) (by exact rfl) ?_
          rotate_left
          ·intro w9 hSw
           go_simp
           all_goals with_reducible rfl
          try simp only [Act.put, List.setIfInBounds_toArray, List.set_cons_zero, List.set_cons_succ]
          refine wpAnyU_take (i := 10) (v := ?_) (by simp only [List.getElem?_toArray, List.getElem?_cons_succ, List.getElem?_cons_zero]; rfl) (by kernel_rfl) (by kernel_rfl) (by kernel_rfl) (by kernel_rfl) (by exact fun _ _ _ h => h) (Or.inl ⟨by rfl, ?_⟩) (by exact rfl) ?_
          rotate_left
          ·intro w9 hSw
           go_simp
           all_goals with_reducible rfl
          try simp only [Act.put, List.setIfInBounds_toArray, List.set_cons_zero, List.set_cons_succ]
          refine wpAnyU_takeY (i := 11) (v := ?_) (by simp only [List.getElem?_toArray, List.getElem?_cons_succ, List.getElem?_cons_zero]; rfl) (by kernel_rfl) (by kernel_rfl) (by kernel_rfl) (by rfl) (by exact fun _ _ _ h => h) (Or.inl ⟨by rfl, ?_⟩) ?_
          rotate_left
          ·intro w9 hSw
           go_simp
           all_goals with_reducible rfl
          try simp only [Act.put, List.setIfInBounds_toArray, List.set_cons_zero, List.set_cons_succ]
          refine wpAnyU_ready (rs := [12]) (by kernel_rfl) (by simp) ?_
          refine AllReadyU.cons (by simp only [List.getElem?_toArray, List.getElem?_cons_succ, List.getElem?_cons_zero]; rfl) (fun K hK => ?_) AllReadyU.nil
          go_simp
          refine hK.out _ _ (fun h => absurd h (by decide)) ?_
          clear hK K
          try simp only [Act.put, List.setIfInBounds_toArray, List.set_cons_zero, List.set_cons_succ]
          refine wpAnyU_done (by kernel_rfl) ?_ _
          go_wp2
          go_roundw
          case rel => exact ⟨k + 1, by go_num, hltk, hk7, hon5⟩
          case measure => simp [intOf]; omega
         ·obtain rfl : nt = k := by omega
          have hk5 : Hid (OwnKd V4 0 (.slice (some ⟨gd, 0, none⟩) n Cd) ((renB gone f.blocks b).set b (renL gone l (i + 1))) xs ess) := hide (by
           have h9 := hkk.out.1
           rw [hnt.out, renX_end, renL_next hins.out] at h9
           exact h9)
          go_wp2
          go_roundw
          case rel => exact ⟨i + 1, by go_num, hlti, hk5, hon4⟩
          case measure => simp [intOf]; omega
       ·obtain rfl : m = i := by omega
        have hk5 : Hid (OwnKd V3 0 (.slice (some ⟨gd, 0, none⟩) n Cd) (renB gone f.blocks (b + 1)) xs ess) := hide (by
         have h9 := hki.out
         rw [hm.out, renL_end, renB_next hl.out hgb.out] at h9
         exact h9)
        have hrr3 : Hid (V3.ownsRow V1.heap.size 36 1 (.slice A (leftN gone b) C) (leftN gone b) ((keptN gone b).map fun k => xs.getD k (.slice none 0 0))) := hide (row_kept hrX.out fun k hk => honi.block k (row_lt hrX.out hk).2.1 (fun h9 => by have := hT0lt.out k h9; have := (row_lt hrX.out hk).1; omega))
        have hbx3 := hbxo V3 honi
        have hl2 : Hid (leftN gone (b + 1) = leftN gone b + 1) := hide (by rw [hln.out]; rfl)
        have hxg : Hid (xs.getD b (.slice none 0 0) = .slice Ax m Cx) := hide (by rw [List.getD_eq_getElem?_getD, hx.out]; rfl)
        have hV13 : V1.heap.size ≤ V3.heap.size := by omega
        have honV := hXV.out V3 honi
        go_wp2_with (first
         | (at_builtin
            refine wpList_append_own _ rfl (.tmp 82) (.tmp 84) _ rfl V1.heap.size 36 p0 _ 1 24 Try.underlying30 hp0.out hp1.out hp2.out hp3.out rfl (by omega) (.slice A (leftN gone b) C) _ _ rfl (hrr3.out.alloc _) ⟨V3.heap.size, 0, none⟩ 1 1 [.slice Ax m Cx] rfl rfl ?c1 ?c2 ?c3 ?c4 ?c5 ?_
            case c1 => exact World.news_of_block (cs := #[.slice Ax m Cx]) (t := 36) (fr := (0, 0)) (heap_alloc_new V3 _)
            case c2 => simp [Value.oneCell']
            case c3 => unfold maxLen; omega
            case c4 => omega
            case c5 => first | (simp; omega) | simp | omega
            intro v9 w9 hown9 hg9 _
            have hon9 : Only T0 V1.heap.size V1 w9 := (honV.alloc hV13 _).trans ⟨hg9.os, hg9.tape, hg9.output, hg9.size, fun k hk hs9 => hg9.block k (by simp; omega) (fun e => by have := (row_lt hrr3.out e.symm).1; omega)⟩
            have hk9 : Hid (OwnKd w9 0 (.slice (some ⟨gd, 0, none⟩) n Cd) (renB gone f.blocks (b + 1)) xs ess) := hide (hk5.out.tb_kept fun k h1 h2 => (hg9.block k (by simp; omega) (fun e => by have := (row_lt hrr3.out e.symm).1; have := hT0lt.out k (hT.out k h2); omega)).trans (Below.heap_alloc _ _ _ h1))
            obtain ⟨A8, C8, hv8⟩ := row_form hown9
            subst hv8
            have hr9 : Hid (w9.ownsRow V1.heap.size 36 1 (.slice A8 (leftN gone (b + 1)) C8) (leftN gone (b + 1)) ((keptN gone (b + 1)).map fun k => xs.getD k (.slice none 0 0))) := hide (by
             rw [hl2.out, hkn.out, List.map_append]
             simp only [Bool.false_eq_true, if_false, List.map_cons, List.map_nil, hxg.out]
             exact hown9)
            replace hown9 := hide hown9
            replace hg9 := hide hg9))
        go_roundw
        case rel => exact ⟨b + 1, A8, C8, by rw [hl2.out], by go_num, hltb, hk9, hr9, hon9⟩
        case measure => simp [intOf]; omega
    ·obtain rfl : n = b := by omega
     have hfin : Hid (∀ e, e = Ending.returned (.tuple #[]) → e = .returned (.tuple #[]) ∧ ∃ d', MF (V2.setCell ⟨N, 3, none⟩ (.slice A (leftN gone n) C)) (fun k => T k ∨ w.heap.size ≤ k) N (setBlocks f (withoutS gone f.blocks)) c d' ∧ Only (fun k => k = N ∨ T k) w.heap.size w (V2.setCell ⟨N, 3, none⟩ (.slice A (leftN gone n) C))) := hide (fun e he => by
      subst he
      refine ⟨rfl, .slice A (leftN gone n) C, ?_⟩
      have h1 := hrb.out
      have hkl : (keptN gone n).length = leftN gone n := keptN_len (by rw [hgl.out]; exact Nat.le_refl _)
      rw [← hkl] at h1
      have h2 := hkb.out.pick (v' := .slice A (keptN gone n).length C) (keptN_nodup gone n) (fun k hk => by rw [renB_len, ← hn.out]; exact keptN_lt hk) (row_mono h1 (Nat.zero_le _))
      have h3 : (keptN gone n).map (fun b => (renB gone f.blocks n).getD b []) = withoutS gone f.blocks := by rw [hn.out]; exact renB_end
      rw [h3, hkl] at h2
      have hon2 : Only T0 w.heap.size w V2 := (Only.of_below hbV).trans (hon.mono (by omega))
      have h4 := hcut.out.store_d (T' := fun k => T0 k ∨ w.heap.size ≤ k) hon2 h2 (fun k hk => by
       rcases hk with h9 | ⟨y, hy, h9⟩ | ⟨a, z, ha, hz, h9⟩
       ·right
        have := (row_lt h1 (by rw [hkl]; exact h9)).1
        omega
       ·obtain ⟨q, hq, rfl⟩ := List.mem_map.1 hy
        have hq2 : q < xs.length := by rw [hk.out.lenx, ← hn.out]; exact keptN_lt hq
        exact .inl (hT.out k (.inr (.inl ⟨_, List.mem_of_getElem? (getD_at hq2), h9⟩)))
       ·obtain ⟨q, hq, rfl⟩ := List.mem_map.1 ha
        have hq2 : q < ess.length := by rw [hk.out.lene, ← hn.out]; exact keptN_lt hq
        exact .inl (hT.out k (.inr (.inr ⟨_, z, List.mem_of_getElem? (getD_at hq2), hz, h9⟩)))) (fun k hk => hk)
      refine ⟨h4.1.mono (fun k hk => hk.imp_left fun h9 => (hT0T.out k h9).1) (fun h9 => ?_) (fun k hk h9 => ?_), h4.2.more fun k _ hk => hk.imp_right fun h9 => (hT0T.out k h9).1⟩
      ·rcases h9 with h9 | h9
       ·exact houtT h9
       ·omega
      ·have h8 := hparc.out k hk
       rcases h9 with h9 | h9
       ·exact h8.1 h9
       ·omega)
     have n3 := c3o V2 hon
     have n4 : V2.frozen? ⟨N, 3, none⟩ = false := by
      have hb2 := (hon.block N hNlt1 hcut.out.out).trans ((hbV.block N hNlt).trans hbox.out)
      simp [World.frozen?, hb2]
     go_wp2
     go_end0
     exact hfin.out _ rfl
end Go.Proofs.Ytamjcafjdioidaa
