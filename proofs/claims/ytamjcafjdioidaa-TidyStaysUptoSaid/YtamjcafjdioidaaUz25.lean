/- Texts of the chain, without what is not wanted: TdD. No condition but sizes. -/
import Derived.WalkKit
import Derived.Deep.Slices
import Derived.Deep.Draws
import Derived.ChangeSame
import Derived.ChangeOld
import Derived.OwnWalk
import Derived.Laws.OwnMore
import Derived.Deep.AppendLies
import Derived.Test.YtamjcafjdioidaaRows
import Derived.ProofKit
import Derived.OpenShut
import Derived.JoinedCond
import Derived.WalkSpells
import Derived.WalkLawsBesides
import Derived.Deep.RegionHeld3
import Derived.Deep.LoopGhost
import Derived.Deep.QuietTactic
import Derived.BigQuiet
import Derived.Deep.DeepCutAuto
import Derived.Deep.CutBlock
import Derived.StillTailTactics
import Derived.Deep.RegionLaw
import Derived.Lib.SliceRun
import Derived.Laws.IdiomCopy
import Derived.Test.YtamjcafjdioidaaUz01
import Derived.Test.YtamjcafjdioidaaUz02
import Derived.Test.YtamjcafjdioidaaUz03
import Derived.Test.YtamjcafjdioidaaUz04
import Derived.Test.YtamjcafjdioidaaUz05
import Derived.Test.YtamjcafjdioidaaUz06
import Derived.Test.YtamjcafjdioidaaUz07
import Derived.Test.YtamjcafjdioidaaUz08
import Derived.Test.YtamjcafjdioidaaUz09
import Derived.Test.YtamjcafjdioidaaUz13
import Derived.Test.YtamjcafjdioidaaUz14
import Derived.Test.YtamjcafjdioidaaUz15
import Derived.Test.YtamjcafjdioidaaUz16
namespace Go.Proofs.Ytamjcafjdioidaa
open Go.RowKit
set_option linter.unusedSimpArgs false
set_option linter.unusedVariables false
set_option maxRecDepth 100000 in
set_option maxHeartbeats 6400000 in
theorem tdecided_any {w : World} {T : Nat → Prop} {N : Nat} {f : Fun} {c d : Value} {Cp : Nat → Prop} (hCp : ∀ k, c.ownBlock = some k → Cp k) (h : MF w T N f c d) (hs : Small f) (hwf : Wf f.blocks) :
  Calls Try.prog 35 #[.pointer (some ⟨N, 0, none⟩)] w (RulePost w T N f Cp (decidedS (reachF f.blocks) f.blocks)) := by
 replace hCp := hide hCp
 obtain ⟨xs, ess, hk, hT⟩ := h.tree
 obtain ⟨R, hR⟩ : ∃ R, Hid (R = reachF f.blocks) := ⟨_, hide rfl⟩
 obtain ⟨n, hn⟩ : ∃ n, Hid (n = f.blocks.length) := ⟨_, hide rfl⟩
 have hnb : n ≤ 2000000 := by rw [hn.out]; exact hs.blocks
 have hRl : Hid (R.length = n) := hide (by rw [hR.out, hn.out, reach_len])
 obtain ⟨res, hres⟩ : ∃ res, Hid (res = decidedS (reachF f.blocks) f.blocks) := ⟨_, hide rfl⟩
 rw [← hres.out]
 obtain ⟨Ad, Cd, hdf⟩ := row_form hk.row
 subst hdf
 obtain ⟨Ac, Cc, hcf⟩ := row_form h.par.row
 subst hcf
 have hNlt := h.lt
 have hbox := h.box
 have b0 := be_fact (box_cell9 hbox 0 rfl) hNlt
 have b1 := be_fact (box_cell9 hbox 1 rfl) hNlt
 have b2 := be_fact (box_cell9 hbox 2 rfl) hNlt
 have b3 := be_fact (box_cell9 hbox 3 rfl) hNlt
 have hself := Below.refl w.heap.size w
 obtain ⟨np, hnp⟩ : ∃ np, Hid (np = f.params.length) := ⟨_, hide rfl⟩
 have hh := h
 have hkk := hk
 have cR : Hid (Calls Try.prog 22 #[f.v (.slice Ac np Cc) (.slice Ad n Cd)] w (ReachPost n R w)) := hide (by
  have := reach_any f _ _ w w.heap.size (Nat.le_refl _) h.rep hs
  rw [← hn.out, ← hR.out, ← hnp.out] at this
  exact this)
 rw [← hnp.out] at b1
 rw [← hn.out] at b3
 replace h := hide h
 replace hh := hide hh
 replace hk := hide hk
 replace hkk := hide hkk
 replace hT := hide hT
 replace hbox := hide hbox
 replace hwf := hide hwf
 replace hs := hide hs
 go_enter Try.func35, Try.ntmps35
 go_wp2_with (fail)
 refine cR.out.mono ?_
 rintro e w1 ⟨gr, rfl, hrr, hb1⟩
 obtain ⟨-, hrd⟩ := bool_reads hrr
 replace hrr := hide hrr
 replace hrd := hide hrd
 have hw1s := hb1.size
 have hself1 := Below.refl w1.heap.size w1
 have h1w : Hid (∀ w', Below w1.heap.size w1 w' → Below w.heap.size w w') := hide (fun w' hb => hb1.trans (hb.mono hw1s))
 have hno0 : Hid (∀ j, j < 0 → dcB R f.blocks j = false) := hide (fun j hj => by omega)
 clear cR
 go_wp2
 go_loopw [13] (fun s wr => ∃ i : Nat, s = .int .i64 i ∧ i ≤ n ∧ Hid (∀ j, j < i → dcB R f.blocks j = false) ∧ Below w1.heap.size w1 wr) (fun s _ => n - (intOf s).toNat)
 case atStart => exact ⟨0, rfl, Nat.zero_le _, hno0, hself1⟩
 case round =>
  clear hno0 hself1
  rename World => V
  obtain ⟨i, rfl, hi, hno, hbV⟩ := hrel
  have hbw := h1w.out V hbV
  have hVs := hbV.size
  by_cases hlt : i < n
  ·have hii : (i : Int) < (n : Int) := by omega
   obtain ⟨l, hl⟩ := get_ex (l := f.blocks) (k := i) (by rw [← hn.out]; exact hlt)
   obtain ⟨rb, hrb⟩ := get_ex (l := R) (k := i) (by rw [hRl.out]; exact hlt)
   have rr := hrd.out i rb hrb.out
   have rr0 := rr V hbV
   have hwl := hwf.out l (List.mem_of_getElem? hl.out)
   obtain ⟨x, es, hx, he, hcd⟩ := hk.out.row_at hl.out
   have hlpos : 0 < l.length := List.length_pos_iff.2 hwl.ne
   obtain ⟨gd, CD9, hgdf, -, hgd⟩ := hk.out.row.form (by rw [← hn.out]; omega)
   rw [← hn.out] at hgdf
   cases hgdf
   obtain ⟨gc, Cx, hxf, -, hgcl⟩ := hcd.row.form hlpos
   subst hxf
   obtain ⟨q, hq⟩ : ∃ q, Hid (l.length = q + 1) := ⟨l.length - 1, hide (by omega)⟩
   obtain ⟨m, hm⟩ : ∃ m, Hid (m = l.length) := ⟨_, hide rfl⟩
   rw [← hm.out] at hx
   obtain ⟨ins, hins⟩ := get_ex (l := l) (k := q) (by rw [hq.out]; omega)
   obtain ⟨ca, ct, hei, hva, hvt, hok⟩ := hcd.ins_at hins.out
   have hmem := List.mem_of_getElem? hins.out
   have hend := endI_at hl.out hq.out hins.out
   have hmb : m ≤ 9223372036854775807 := by rw [hm.out]; exact row_bound hcd.row
   have cE : Hid (Calls Try.prog 54 #[.pointer (some ⟨N, 0, none⟩), .int .i64 i] V fun e w' => e = .returned (.pointer (some ⟨gc, q * 7, none⟩)) ∧ w' = V) := hide (by
    have hk1 := hk.out.kept (w' := V) fun k _ hk => hbw.block k hk
    rw [← hn.out] at hk1
    exact tend_any (b3 V hbw) hn.out hk1 hx (by rw [hm.out, hq.out]) hmb)
   have hcdV : Hid (OwnCd V 0 (.slice (some ⟨gc, 0, none⟩) m Cx) l es) := hide (by
    have := hcd.kept (w' := V) fun k _ hk => hbw.block k hk
    rwa [← hm.out] at this)
   replace hx := hide hx
   replace he := hide he
   replace hei := hide hei
   replace hend := hide hend
   replace hmem := hide hmem
   replace hwl := hide hwl
   replace hok := hide hok
   go_wp2_with (fail)
   refine cE.out.mono ?_
   rintro e w2 ⟨rfl, hw2⟩
   rw [hw2]
   clear hw2
   obtain ⟨e0, e1, e2, e3, e4, e5, e6⟩ := cell7 hcdV.out hins.out hei.out
   have hstep : Hid (dcB R f.blocks i = false → ∀ j, j < i + 1 → dcB R f.blocks j = false) := hide (fun h9 j hj => by
    rcases Nat.lt_succ_iff_lt_or_eq.1 hj with h1 | h1
    ·exact hno.out j h1
    ·rw [h1]; exact h9)
   have hgetR : Hid (R.getD i false = rb) := hide (by rw [List.getD_eq_getElem?_getD, hrb.out]; rfl)
   cases rb with
   | false =>
    have hnx := hide (hstep.out (by unfold dcB; rw [hgetR.out]; rfl))
    go_wp2
    go_roundw
    case rel => exact ⟨i + 1, by go_num, hlt, hnx, hbV⟩
    case measure => simp [intOf]; omega
   | true =>
    by_cases h32 : ins.op = 32
    case neg =>
     have hnx := hide (hstep.out (by unfold dcB; rw [hend.out]; simp [h32]))
     have g1 : (ins.op != 32) = true := by rw [bne_iff_ne]; exact h32
     replace h32 := hide h32
     go_wp2
     go_roundw
     case rel => exact ⟨i + 1, by go_num, hlt, hnx, hbV⟩
     case measure => simp [intOf]; omega
    have g1 : (ins.op != 32) = false := by rw [h32]; rfl
    obtain ⟨hto2, hargs1⟩ := hwl.out.brif ins hmem.out h32
    obtain ⟨t0, t1, hto⟩ : ∃ t0 t1, Hid (ins.to = [t0, t1]) := by
     match h9 : ins.to, hto2 with
     | [a, b], _ => exact ⟨a, b, hide rfl⟩
    obtain ⟨ao, hargs⟩ : ∃ ao, Hid (ins.args = [ao]) := by
     match h9 : ins.args, hargs1 with
     | [a], _ => exact ⟨a, hide rfl⟩
    obtain ⟨At, Ct, hctf⟩ := row_form hvt.row
    subst hctf
    obtain ⟨Aa, Ca, hcaf⟩ := row_form hva.row
    subst hcaf
    obtain ⟨gt, CT9, htf, -, hgtl⟩ := hvt.row.form (by rw [hto.out]; simp)
    rw [hto.out] at htf
    cases htf
    obtain ⟨ga, CA9, haf, -, hgal⟩ := hva.row.form (by rw [hargs.out]; simp)
    rw [hargs.out] at haf
    cases haf
    have hvr := hvt.row
    have har := hva.row
    have hgtl' : gt < w.heap.size := hgtl
    have hgal' : ga < w.heap.size := hgal
    have a0 := World.ownsRow.cellAt (n := 2) (by rw [hto.out] at hvr; exact hvr) 0 (by omega)
    have a1 := World.ownsRow.cellAt (n := 2) (by rw [hto.out] at hvr; exact hvr) 1 (by omega)
    have ab0 := World.ownsRow.cellAt (n := 1) (by rw [hargs.out] at har; exact har) 0 (by omega)
    have ab2 := World.ownsRow.cellAt (n := 1) (by rw [hargs.out] at har; exact har) 2 (by omega)
    simp only [hto.out, List.map_cons, List.map_nil, List.getElem?_cons_zero, List.getElem?_cons_succ] at a0 a1
    simp only [hargs.out, List.flatMap_cons, List.flatMap_nil, oc, List.cons_append, List.nil_append, List.getElem?_cons_zero, List.getElem?_cons_succ] at ab0 ab2
    simp only [hto.out, List.length_cons, List.length_nil] at e6
    simp only [hargs.out, List.length_cons, List.length_nil] at e5
    have a0' := be_fact (w := w) (N := gt) (j := 0) a0 hgtl' V hbw
    have a1' := be_fact (w := w) (N := gt) (j := 1) a1 hgtl' V hbw
    have k0' := be_fact (w := w) (N := ga) (j := 0) ab0 hgal' V hbw
    have htok : Hid (∀ z, z ∈ ins.to → I64 z) := hide hvt.ok
    have hse : Hid (∀ z, setEnd l (brI z) = l.set q (brI z)) := hide (fun z => by unfold setEnd; rw [hq.out, Nat.add_sub_cancel])
    replace h32 := hide h32
    by_cases hkind : ao.kind = 2
    case neg =>
     have hnx := hide (hstep.out (by unfold dcB; rw [hend.out]; simp [hargs.out, hkind]))
     have g3 : (ao.kind != 2) = true := by rw [bne_iff_ne]; exact hkind
     replace hkind := hide hkind
     go_wp2
     go_roundw
     case rel => exact ⟨i + 1, by go_num, hlt, hnx, hbV⟩
     case measure => simp [intOf]; omega
    have g3 : (ao.kind != 2) = false := by rw [hkind]; rfl
    replace hkind := hide hkind
    by_cases hbits : ao.bits = 1
    ·have g4 : (ao.bits != 1) = false := by rw [hbits]; rfl
     replace hbits := hide hbits
     have hgo : Hid (goesI ins = (t0, t1)) := hide (by unfold goesI; simp [hargs.out, hto.out, hbits.out])
     have hfound : Hid (res = some (decAt f.blocks i (t0, t1))) := hide (by
      rw [hres.out]
      unfold decidedS
      rw [← hR.out, find_range (i := i) (by rw [← hn.out]; exact hlt) (by unfold dcB; rw [hgetR.out, hend.out]; simp [h32.out, hargs.out, hkind.out]) hno.out]
      simp only [Option.map_some, hend.out, hgo.out]
      rfl)
     have hIA : Hid (I64 t0) := hide (htok.out t0 (by rw [hto.out]; simp))
     go_upto_region 6 with (fail)
     go_quiet (fail)
     have hbQ0 := below_drewN hbw nq
     obtain ⟨Q, hQ⟩ : ∃ Q, Hid (V.drewN nq = Q) := ⟨_, hide rfl⟩
     rw [hQ.out] at hbQ0 ⊢
     have hVQ : Hid (Below V.heap.size V Q) := hide (by rw [← hQ.out]; exact below_drewN (Below.refl _ _) nq)
     obtain ⟨e0, e1, e2, e3, e4, e5, e6⟩ := cell7 (hcdV.out.kept (w' := Q) fun k _ hk => hVQ.out.block k hk) hins.out hei.out
     simp only [hto.out, List.length_cons, List.length_nil] at e6
     simp only [hargs.out, List.length_cons, List.length_nil] at e5
     have a2' := be_fact (w := w) (N := ga) (j := 2) ab2 hgal' Q hbQ0
     have hbQ := hide hbQ0
     go_wp2_with (fail)
     refine (tjump_any t0 hIA.out _).mono ?_
     rintro e X ⟨g, rfl, hIX, hbX⟩
     have hcX := (hcdV.out.kept (w' := Q) fun k _ hk => hVQ.out.block k hk).kept (w' := X) fun k _ hk => hbX.block k hk
     obtain ⟨x0, x1, x2, x3, x4, x5, x6⟩ := cell7 hcX hins.out hei.out
     have xz : ∀ j, X.frozen? ⟨gc, j, none⟩ = false := fun j => row_free hcX.row j
     have z0 := xz (q * 7)
     have z1 := xz (q * 7 + 1)
     have z2 := xz (q * 7 + 2)
     have z3 := xz (q * 7 + 3)
     have z4 := xz (q * 7 + 4)
     have z5 := xz (q * 7 + 5)
     have z6 := xz (q * 7 + 6)
     have hwX : Below w.heap.size w X := hbQ.out.trans (hbX.mono hbQ.out.size)
     have h9 := hide (MF.ins7 h.out hk.out hT.out hl.out (by rw [hm.out] at hx; exact hx.out) he.out hins.out hei.out hwX (c' := .slice none 0 0) (x := brI t0) OwnV.nil_ (hIX.mono hbQ.out.size) (brI_ok t0))
     have hXs : Hid (w.heap.size ≤ X.heap.size) := hide hwX.size
     replace hIX := hide hIX
     replace hbX := hide hbX
     replace hcX := hide hcX
     replace hwX := hide hwX
     clear xz
     obtain ⟨Y, hY⟩ : ∃ Y, Hid (put7I X gc (q * 7) (brI t0) (.slice none 0 0) (.slice (some ⟨g, 0, none⟩) 1 1) = Y) := ⟨_, hide rfl⟩
     have h8 := h9.out
     rw [hY.out] at h8
     have h8 := hide h8
     go_upto_region 10 with (fail)
     rw [show ((((((X.setCell ⟨gc, q * 7, none⟩ (.int .i64 31)).setCell ⟨gc, q * 7 + 1, none⟩ (.int .i64 (-1))).setCell ⟨gc, q * 7 + 2, none⟩ (.int .i64 0)).setCell ⟨gc, q * 7 + 3, none⟩ (.int .i64 0)).setCell ⟨gc, q * 7 + 4, none⟩ (.int .i64 0)).setCell ⟨gc, q * 7 + 5, none⟩ (.slice none 0 0)).setCell ⟨gc, q * 7 + 6, none⟩ (.slice (some ⟨g, 0, none⟩) 1 1) = Y from hY.out]
     clear x0 x1 x2 x3 x4 x5 x6 z0 z1 z2 z3 z4 z5 z6 e0 e1 e2 e3 e4 e5 e6
     by_cases hoa : t1 = t0
     ·have g9 : (t1 != t0) = false := by rw [hoa]; simp
      have hfin : Hid (RulePost w T N f Cp res (.returned (.bool true)) Y) := hide (by
       rw [hfound.out]
       have e : decAt f.blocks i (t0, t1) = f.blocks.set i (l.set q (brI t0)) := by
        unfold decAt
        rw [if_pos hoa, List.getD_eq_getElem?_getD, hl.out, ← hse.out t0]
        rfl
       rw [e]
       exact ⟨_, _, _, fun k hk => hk, ⟨rfl, h8.out.1⟩, h8.out.2, fun k hk => .inl (hCp.out k hk)⟩)
      replace hoa := hide hoa
      go_wp2
      go_ret
      exact hfin.out
     ·have g9 : (t1 != t0) = true := by rw [bne_iff_ne]; exact hoa
      obtain ⟨o, ho⟩ : ∃ o : Nat, Hid (t1 = (o : Int) ∧ o < n) := by
       have h1 := hwl.out.to_ ins hmem.out t1 (by rw [hto.out]; simp)
       obtain ⟨o, e⟩ := Int.eq_ofNat_of_zero_le h1.1
       exact ⟨o, hide ⟨e, by have := hn.out; have := h1.2; omega⟩⟩
      obtain ⟨l2, hl2⟩ : ∃ l2, Hid ((f.blocks.set i (l.set q (brI t0)))[o]? = some l2) := by
       have h1 := ho.out.2
       rw [hn.out] at h1
       exact ⟨_, hide (List.getElem?_eq_getElem (by rw [List.length_set]; exact h1))⟩
      have hph2 : Hid (PhiLen l2) := hide (by
       rcases List.mem_or_eq_of_mem_set (List.mem_of_getElem? hl2.out) with h1 | h1
       ·exact (hwf.out l2 h1).phi
       ·rw [h1, ← hse.out t0]
        exact phiLen_setEnd hwl.out.phi (by show (31 : Int) ≠ 25; omega))
      have cL : Hid (Calls Try.prog 56 #[.pointer (some ⟨N, 0, none⟩), .int .i64 t1, .int .i64 i] Y fun e w' => e = .returned (.tuple #[]) ∧ RulePost w T N f Cp res (.returned (.bool true)) w') := hide (by
       rw [ho.out.1]
       refine (lose_any h8.out.1 o i hl2.out hph2.out).mono ?_
       rintro e w' ⟨rfl, hm1, hm2⟩
       refine ⟨rfl, ?_⟩
       rw [hfound.out]
       have e : decAt f.blocks i (t0, t1) = (f.blocks.set i (l.set q (brI t0))).set o (loseL i l2) := by
        unfold decAt loseB
        rw [if_neg hoa, ho.out.1, Int.toNat_natCast]
        have e1 : f.blocks.getD i [] = l := by rw [List.getD_eq_getElem?_getD, hl.out]; rfl
        simp only [e1]
        rw [show setEnd l (brJ t0) = l.set q (brI t0) from hse.out t0]
        rw [List.getD_eq_getElem?_getD, hl2.out]
        rfl
       rw [e]
       refine ⟨_, _, _, fun k hk => hk, ⟨rfl, hm1⟩, h8.out.2.trans ((hm2.mono (B' := w.heap.size) h8.out.2.size).more fun k hk hq => ?_), fun k hk => .inl (hCp.out k hk)⟩
       rcases hq with h1 | h1
       ·exact .inr h1
       ·omega)
      replace hoa := hide hoa
      go_wp2_with (fail)
      refine cL.out.mono ?_
      rintro e w9 ⟨rfl, hfin⟩
      replace hfin := hide hfin
      go_wp2
      go_ret
      exact hfin.out
    ·have g4 : (ao.bits != 1) = true := by rw [bne_iff_ne]; exact hbits
     replace hbits := hide hbits
     have hgo : Hid (goesI ins = (t1, t0)) := hide (by unfold goesI; simp [hargs.out, hto.out, hbits.out])
     have hfound : Hid (res = some (decAt f.blocks i (t1, t0))) := hide (by
      rw [hres.out]
      unfold decidedS
      rw [← hR.out, find_range (i := i) (by rw [← hn.out]; exact hlt) (by unfold dcB; rw [hgetR.out, hend.out]; simp [h32.out, hargs.out, hkind.out]) hno.out]
      simp only [Option.map_some, hend.out, hgo.out]
      rfl)
     have hIA : Hid (I64 t1) := hide (htok.out t1 (by rw [hto.out]; simp))
     go_upto_region 6 with (fail)
     go_quiet (fail)
     have hbQ0 := below_drewN hbw nq
     obtain ⟨Q, hQ⟩ : ∃ Q, Hid (V.drewN nq = Q) := ⟨_, hide rfl⟩
     rw [hQ.out] at hbQ0 ⊢
     have hVQ : Hid (Below V.heap.size V Q) := hide (by rw [← hQ.out]; exact below_drewN (Below.refl _ _) nq)
     obtain ⟨e0, e1, e2, e3, e4, e5, e6⟩ := cell7 (hcdV.out.kept (w' := Q) fun k _ hk => hVQ.out.block k hk) hins.out hei.out
     simp only [hto.out, List.length_cons, List.length_nil] at e6
     simp only [hargs.out, List.length_cons, List.length_nil] at e5
     have a2' := be_fact (w := w) (N := ga) (j := 2) ab2 hgal' Q hbQ0
     have hbQ := hide hbQ0
     go_wp2_with (fail)
     refine (tjump_any t1 hIA.out _).mono ?_
     rintro e X ⟨g, rfl, hIX, hbX⟩
     have hcX := (hcdV.out.kept (w' := Q) fun k _ hk => hVQ.out.block k hk).kept (w' := X) fun k _ hk => hbX.block k hk
     obtain ⟨x0, x1, x2, x3, x4, x5, x6⟩ := cell7 hcX hins.out hei.out
     have xz : ∀ j, X.frozen? ⟨gc, j, none⟩ = false := fun j => row_free hcX.row j
     have z0 := xz (q * 7)
     have z1 := xz (q * 7 + 1)
     have z2 := xz (q * 7 + 2)
     have z3 := xz (q * 7 + 3)
     have z4 := xz (q * 7 + 4)
     have z5 := xz (q * 7 + 5)
     have z6 := xz (q * 7 + 6)
     have hwX : Below w.heap.size w X := hbQ.out.trans (hbX.mono hbQ.out.size)
     have h9 := hide (MF.ins7 h.out hk.out hT.out hl.out (by rw [hm.out] at hx; exact hx.out) he.out hins.out hei.out hwX (c' := .slice none 0 0) (x := brI t1) OwnV.nil_ (hIX.mono hbQ.out.size) (brI_ok t1))
     have hXs : Hid (w.heap.size ≤ X.heap.size) := hide hwX.size
     replace hIX := hide hIX
     replace hbX := hide hbX
     replace hcX := hide hcX
     replace hwX := hide hwX
     clear xz
     obtain ⟨Y, hY⟩ : ∃ Y, Hid (put7I X gc (q * 7) (brI t1) (.slice none 0 0) (.slice (some ⟨g, 0, none⟩) 1 1) = Y) := ⟨_, hide rfl⟩
     have h8 := h9.out
     rw [hY.out] at h8
     have h8 := hide h8
     go_upto_region 10 with (fail)
     rw [show ((((((X.setCell ⟨gc, q * 7, none⟩ (.int .i64 31)).setCell ⟨gc, q * 7 + 1, none⟩ (.int .i64 (-1))).setCell ⟨gc, q * 7 + 2, none⟩ (.int .i64 0)).setCell ⟨gc, q * 7 + 3, none⟩ (.int .i64 0)).setCell ⟨gc, q * 7 + 4, none⟩ (.int .i64 0)).setCell ⟨gc, q * 7 + 5, none⟩ (.slice none 0 0)).setCell ⟨gc, q * 7 + 6, none⟩ (.slice (some ⟨g, 0, none⟩) 1 1) = Y from hY.out]
     clear x0 x1 x2 x3 x4 x5 x6 z0 z1 z2 z3 z4 z5 z6 e0 e1 e2 e3 e4 e5 e6
     by_cases hoa : t0 = t1
     ·have g9 : (t0 != t1) = false := by rw [hoa]; simp
      have hfin : Hid (RulePost w T N f Cp res (.returned (.bool true)) Y) := hide (by
       rw [hfound.out]
       have e : decAt f.blocks i (t1, t0) = f.blocks.set i (l.set q (brI t1)) := by
        unfold decAt
        rw [if_pos hoa, List.getD_eq_getElem?_getD, hl.out, ← hse.out t1]
        rfl
       rw [e]
       exact ⟨_, _, _, fun k hk => hk, ⟨rfl, h8.out.1⟩, h8.out.2, fun k hk => .inl (hCp.out k hk)⟩)
      replace hoa := hide hoa
      go_wp2
      go_ret
      exact hfin.out
     ·have g9 : (t0 != t1) = true := by rw [bne_iff_ne]; exact hoa
      obtain ⟨o, ho⟩ : ∃ o : Nat, Hid (t0 = (o : Int) ∧ o < n) := by
       have h1 := hwl.out.to_ ins hmem.out t0 (by rw [hto.out]; simp)
       obtain ⟨o, e⟩ := Int.eq_ofNat_of_zero_le h1.1
       exact ⟨o, hide ⟨e, by have := hn.out; have := h1.2; omega⟩⟩
      obtain ⟨l2, hl2⟩ : ∃ l2, Hid ((f.blocks.set i (l.set q (brI t1)))[o]? = some l2) := by
       have h1 := ho.out.2
       rw [hn.out] at h1
       exact ⟨_, hide (List.getElem?_eq_getElem (by rw [List.length_set]; exact h1))⟩
      have hph2 : Hid (PhiLen l2) := hide (by
       rcases List.mem_or_eq_of_mem_set (List.mem_of_getElem? hl2.out) with h1 | h1
       ·exact (hwf.out l2 h1).phi
       ·rw [h1, ← hse.out t1]
        exact phiLen_setEnd hwl.out.phi (by show (31 : Int) ≠ 25; omega))
      have cL : Hid (Calls Try.prog 56 #[.pointer (some ⟨N, 0, none⟩), .int .i64 t0, .int .i64 i] Y fun e w' => e = .returned (.tuple #[]) ∧ RulePost w T N f Cp res (.returned (.bool true)) w') := hide (by
       rw [ho.out.1]
       refine (lose_any h8.out.1 o i hl2.out hph2.out).mono ?_
       rintro e w' ⟨rfl, hm1, hm2⟩
       refine ⟨rfl, ?_⟩
       rw [hfound.out]
       have e : decAt f.blocks i (t1, t0) = (f.blocks.set i (l.set q (brI t1))).set o (loseL i l2) := by
        unfold decAt loseB
        rw [if_neg hoa, ho.out.1, Int.toNat_natCast]
        have e1 : f.blocks.getD i [] = l := by rw [List.getD_eq_getElem?_getD, hl.out]; rfl
        simp only [e1]
        rw [show setEnd l (brJ t1) = l.set q (brI t1) from hse.out t1]
        rw [List.getD_eq_getElem?_getD, hl2.out]
        rfl
       rw [e]
       refine ⟨_, _, _, fun k hk => hk, ⟨rfl, hm1⟩, h8.out.2.trans ((hm2.mono (B' := w.heap.size) h8.out.2.size).more fun k hk hq => ?_), fun k hk => .inl (hCp.out k hk)⟩
       rcases hq with h1 | h1
       ·exact .inr h1
       ·omega)
      replace hoa := hide hoa
      go_wp2_with (fail)
      refine cL.out.mono ?_
      rintro e w9 ⟨rfl, hfin⟩
      replace hfin := hide hfin
      go_wp2
      go_ret
      exact hfin.out
  ·obtain rfl : n = i := by omega
   have hfin : Hid (RulePost w T N f Cp res (.returned (.bool false)) V) := hide (RulePost.none_ (by
    rw [hres.out]
    unfold decidedS
    rw [← hR.out, find_range_none (by rw [← hn.out]; exact hno.out)]
    rfl) h.out (h1w.out V hbV) hCp.out)
   go_wp2
   go_ret
   exact hfin.out
end Go.Proofs.Ytamjcafjdioidaa
