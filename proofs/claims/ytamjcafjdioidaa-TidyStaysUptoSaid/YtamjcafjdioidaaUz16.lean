/- Texts of the chain, without what is not wanted: TdC, DoD, DoG, DoJ, Cr, GrZb. No condition but sizes. -/
import Derived.WalkKit
import Derived.Deep.Slices
import Derived.Deep.Draws
import Derived.ChangeSame
import Derived.ChangeOld
import Derived.OwnWalk
import Derived.Laws.OwnMore
import Derived.Deep.AppendLies
import Derived.Test.YtamjcafjdioidaaRows
import Derived.ProofKit
import Derived.OpenShut
import Derived.JoinedCond
import Derived.WalkSpells
import Derived.WalkLawsBesides
import Derived.Deep.RegionHeld3
import Derived.Deep.LoopGhost
import Derived.Deep.QuietTactic
import Derived.BigQuiet
import Derived.Deep.DeepCutAuto
import Derived.Deep.CutBlock
import Derived.StillTailTactics
import Derived.Deep.RegionLaw
import Derived.Lib.SliceRun
import Derived.Laws.IdiomCopy
import Derived.Test.YtamjcafjdioidaaUz01
import Derived.Test.YtamjcafjdioidaaUz02
import Derived.Test.YtamjcafjdioidaaUz03
import Derived.Test.YtamjcafjdioidaaUz04
import Derived.Test.YtamjcafjdioidaaUz05
import Derived.Test.YtamjcafjdioidaaUz06
import Derived.Test.YtamjcafjdioidaaUz07
import Derived.Test.YtamjcafjdioidaaUz08
import Derived.Test.YtamjcafjdioidaaUz09
import Derived.Test.YtamjcafjdioidaaUz13
import Derived.Test.YtamjcafjdioidaaUz14
import Derived.Test.YtamjcafjdioidaaUz15
namespace Go.Proofs.Ytamjcafjdioidaa
open Go.RowKit
set_option linter.unusedSimpArgs false
set_option linter.unusedVariables false
def RulePost (w : World) (T : Nat → Prop) (N : Nat) (f : Fun) (Cp : Nat → Prop) (res : Option (List (List Ins))) (e : Ending) (w' : World) : Prop :=
 ∃ (T' : Nat → Prop) (c' d' : Value), (∀ k, T' k → T k ∨ w.heap.size ≤ k) ∧ (match res with | none => e = .returned (.bool false) ∧ MF w' T' N f c' d' | some bs => e = .returned (.bool true) ∧ MF w' T' N (setBlocks f bs) c' d') ∧ Only (fun k => k = N ∨ T k) w.heap.size w w' ∧ (∀ k, c'.ownBlock = some k → Cp k ∨ w.heap.size ≤ k)
theorem RulePost.none_ {w w' : World} {T : Nat → Prop} {N : Nat} {f : Fun} {c d : Value} {Cp : Nat → Prop} {res : Option (List (List Ins))} (hr : res = none) (h : MF w T N f c d) (hb : Below w.heap.size w w') (hCp : ∀ k, c.ownBlock = some k → Cp k) : RulePost w T N f Cp res (.returned (.bool false)) w' := by
 subst hr
 exact ⟨T, c, d, fun k hk => .inl hk, ⟨rfl, h.below hb⟩, Only.of_below hb, fun k hk => .inl (hCp k hk)⟩
theorem m31 : I64 31 := i64_mk (by omega) (by omega)
theorem mm1 : I64 (-1) := i64_mk (by omega) (by omega)
theorem m00 : I64 0 := i64_mk (by omega) (by omega)
theorem brI_ok (t : Int) : InsOk (brI t) := ⟨m31, mm1, m00, m00, m00⟩
theorem cell7 {w : World} {gc q m C : Nat} {l : List Ins} {es : List (Value × Value)} {x : Ins} {c t : Value} (h : OwnCd w 0 (.slice (some ⟨gc, 0, none⟩) m C) l es) (hx : l[q]? = some x) (he : es[q]? = some (c, t)) :
  w.cell? ⟨gc, q * 7, none⟩ = some (.int .i64 x.op) ∧ w.cell? ⟨gc, q * 7 + 1, none⟩ = some (.int .i64 x.reg) ∧ w.cell? ⟨gc, q * 7 + 2, none⟩ = some (.int .i64 x.ty) ∧ w.cell? ⟨gc, q * 7 + 3, none⟩ = some (.int .i64 x.num) ∧ w.cell? ⟨gc, q * 7 + 4, none⟩ = some (.int .i64 x.flags) ∧ w.cell? ⟨gc, q * 7 + 5, none⟩ = some c ∧ w.cell? ⟨gc, q * 7 + 6, none⟩ = some t :=
 ⟨h.cell_at hx he (j := 0) rfl, h.cell_at hx he (j := 1) rfl, h.cell_at hx he (j := 2) rfl, h.cell_at hx he (j := 3) rfl, h.cell_at hx he (j := 4) rfl, h.cell_at hx he (j := 5) rfl, h.cell_at hx he (j := 6) rfl⟩
def put7I (w : World) (g o : Nat) (x : Ins) (c t : Value) : World := ((((((w.setCell ⟨g, o, none⟩ (.int .i64 x.op)).setCell ⟨g, o + 1, none⟩ (.int .i64 x.reg)).setCell ⟨g, o + 2, none⟩ (.int .i64 x.ty)).setCell ⟨g, o + 3, none⟩ (.int .i64 x.num)).setCell ⟨g, o + 4, none⟩ (.int .i64 x.flags)).setCell ⟨g, o + 5, none⟩ c).setCell ⟨g, o + 6, none⟩ t
theorem put7I_heap (w : World) (g o : Nat) (x : Ins) (c t : Value) (k : Nat) (h : k ≠ g) : (put7I w g o x c t).heap[k]? = w.heap[k]? := by
 unfold put7I
 rw [Below.heap_setCell _ ⟨g, o + 6, none⟩ _ _ h, Below.heap_setCell _ ⟨g, o + 5, none⟩ _ _ h, Below.heap_setCell _ ⟨g, o + 4, none⟩ _ _ h, Below.heap_setCell _ ⟨g, o + 3, none⟩ _ _ h, Below.heap_setCell _ ⟨g, o + 2, none⟩ _ _ h, Below.heap_setCell _ ⟨g, o + 1, none⟩ _ _ h, Below.heap_setCell _ ⟨g, o, none⟩ _ _ h]
theorem put7I_only {S : Nat → Prop} {B : Nat} {a w : World} {g : Nat} (h : Only S B a w) (hg : S g) (o : Nat) (x : Ins) (c t : Value) : Only S B a (put7I w g o x c t) := by
 unfold put7I
 exact ((((((h.setCell (p := ⟨g, o, none⟩) (.inl hg) _).setCell (p := ⟨g, o + 1, none⟩) (.inl hg) _).setCell (p := ⟨g, o + 2, none⟩) (.inl hg) _).setCell (p := ⟨g, o + 3, none⟩) (.inl hg) _).setCell (p := ⟨g, o + 4, none⟩) (.inl hg) _).setCell (p := ⟨g, o + 5, none⟩) (.inl hg) _).setCell (p := ⟨g, o + 6, none⟩) (.inl hg) _
theorem MF.ins7 {w0 w : World} {T : Nat → Prop} {N : Nat} {f : Fun} {c d : Value} {xs : List Value} {ess : List (List (Value × Value))} (hf : MF w0 T N f c d) (hk : OwnKd w0 0 d f.blocks xs ess) (hT : ∀ k, TB d xs ess k → T k) {b i gc n C : Nat} {l : List Ins} {es : List (Value × Value)} {ins x : Ins} {ca ct c' t' : Value}
  (hb : f.blocks[b]? = some l) (hx : xs[b]? = some (.slice (some ⟨gc, 0, none⟩) n C)) (he : ess[b]? = some es) (hi : l[i]? = some ins) (hei : es[i]? = some (ca, ct)) (hw : Below w0.heap.size w0 w) (hV : OwnV w w0.heap.size c' x.args) (hI : OwnI w w0.heap.size t' x.to) (hok : InsOk x) :
  MF (put7I w gc (i * 7) x c' t') (fun k => T k ∨ w0.heap.size ≤ k) N (setBlocks f (f.blocks.set b (l.set i x))) c d ∧ Only (fun k => k = N ∨ T k) w0.heap.size w0 (put7I w gc (i * 7) x c' t') := by
 have hcd := hk.inn b _ l es hx hb he
 have hgT : T gc := hT gc (.inr (.inl ⟨_, List.mem_of_getElem? hx, rfl⟩))
 have hglt : gc < w0.heap.size := (row_lt hcd.row rfl).2.1
 have hlen := hcd.len
 have hn : n = l.length := by
  rcases hcd.row.2 with ⟨e, -⟩ | ⟨g, cap, cur, e, -⟩
  ·cases e
  ·cases e; rfl
 have hon : Only (fun k => k = N ∨ T k) w0.heap.size w0 (put7I w gc (i * 7) x c' t') := put7I_only (Only.of_below hw) (.inr hgT) _ _ _ _
 have hrow : (put7I w gc (i * 7) x c' t').ownsRow 0 39 7 (.slice (some ⟨gc, 0, none⟩) n C) n (cellsOf (l.set i x) (es.set i (c', t'))) := by
  have h1 : w.ownsRow 0 39 7 (.slice (some ⟨gc, 0, none⟩) n C) n (cellsOf l es) := by
   have := row_kept hcd.row (w' := w) fun k hk => hw.block k (row_lt hcd.row hk).2.1
   rwa [← hn] at this
  have h2 := (World.ownsRow.stored (World.ownsRow.stored (World.ownsRow.stored (World.ownsRow.stored (World.ownsRow.stored (World.ownsRow.stored (World.ownsRow.stored h1 (i * 7) (.int .i64 x.op)).1 (i * 7 + 1) (.int .i64 x.reg)).1 (i * 7 + 2) (.int .i64 x.ty)).1 (i * 7 + 3) (.int .i64 x.num)).1 (i * 7 + 4) (.int .i64 x.flags)).1 (i * 7 + 5) c').1 (i * 7 + 6) t').1
  rw [cells_set7 hi hei hlen] at h2
  exact h2
 have hnew : ∀ v : Value, ∀ k, v.ownBlock = some k → w0.heap.size ≤ k → (put7I w gc (i * 7) x c' t').heap[k]? = w.heap[k]? := fun v k _ hk => put7I_heap _ _ _ _ _ _ _ (by omega)
 have hV' : OwnV (put7I w gc (i * 7) x c' t') 0 c' x.args := ⟨row_mono (row_kept hV.row fun k hk => hnew _ k hk (row_lt hV.row hk).1) (Nat.zero_le _), hV.ok⟩
 have hI' : OwnI (put7I w gc (i * 7) x c' t') 0 t' x.to := ⟨row_mono (row_kept hI.row fun k hk => hnew _ k hk (row_lt hI.row hk).1) (Nat.zero_le _), hI.ok⟩
 have hk3 := hk.put_ins (w' := put7I w gc (i * 7) x c' t') hb hx he hi hei hrow hV' hI' hok (fun k h => .inr (row_lt hV.row h).1) (fun k h => .inr (row_lt hI.row h).1) (fun k h1 h2 _ _ => (put7I_heap _ _ _ _ _ _ _ h2).trans (hw.block k h1))
 have hTn : ∀ k, TB d xs (ess.set b (es.set i (c', t'))) k → T k ∨ w0.heap.size ≤ k := fun k hq => by
  rcases hq with h1 | h1 | ⟨a, z, h1, h2, h3⟩
  ·exact .inl (hT k (.inl h1))
  ·exact .inl (hT k (.inr (.inl h1)))
  ·rcases List.mem_or_eq_of_mem_set h1 with h4 | h4
   ·exact .inl (hT k (.inr (.inr ⟨a, z, h4, h2, h3⟩)))
   ·subst h4
    rcases List.mem_or_eq_of_mem_set h2 with h5 | h5
    ·exact .inl (hT k (.inr (.inr ⟨es, z, List.mem_of_getElem? he, h5, h3⟩)))
    ·subst h5
     rcases h3 with h3 | h3
     ·exact .inr (row_lt hV.row h3).1
     ·exact .inr (row_lt hI.row h3).1
 refine ⟨⟨?_, ⟨xs, _, hk3, hTn⟩, ⟨row_kept hf.par.row fun k hv => hon.block k (row_lt hf.par.row hv).2.1 (fun h => ?_), hf.par.ok⟩, fun k hk' => ⟨fun h => ?_, (hf.far k hk').2⟩, fun h => ?_, hf.ret, hf.nm⟩, hon⟩
 ·have e : N ≠ gc := fun e => hf.out (e ▸ hgT)
  rw [put7I_heap _ _ _ _ _ _ _ e, hw.block N hf.lt]
  exact hf.box
 ·rcases h with h | h
  ·exact (hf.far k hv).2 h
  ·exact (hf.far k hv).1 h
 ·rcases h with h | h
  ·exact (hf.far k hk').1 h
  ·have := (row_lt hf.par.row hk').2.1
   omega
 ·rcases h with h | h
  ·exact hf.out h
  ·have := hf.lt
   omega
set_option maxRecDepth 100000 in
set_option maxHeartbeats 6400000 in
theorem ttwice_any {w : World} {T : Nat → Prop} {N : Nat} {f : Fun} {c d : Value} {Cp : Nat → Prop} (hCp : ∀ k, c.ownBlock = some k → Cp k) (h : MF w T N f c d) (hs : Small f) (hwf : Wf f.blocks) :
  Calls Try.prog 36 #[.pointer (some ⟨N, 0, none⟩)] w (RulePost w T N f Cp (twiceS (reachF f.blocks) f.blocks)) := by
 replace hCp := hide hCp
 obtain ⟨xs, ess, hk, hT⟩ := h.tree
 obtain ⟨R, hR⟩ : ∃ R, Hid (R = reachF f.blocks) := ⟨_, hide rfl⟩
 obtain ⟨n, hn⟩ : ∃ n, Hid (n = f.blocks.length) := ⟨_, hide rfl⟩
 have hnb : n ≤ 2000000 := by rw [hn.out]; exact hs.blocks
 have hRl : Hid (R.length = n) := hide (by rw [hR.out, hn.out, reach_len])
 obtain ⟨res, hres⟩ : ∃ res, Hid (res = twiceS (reachF f.blocks) f.blocks) := ⟨_, hide rfl⟩
 rw [← hres.out]
 obtain ⟨Ad, Cd, hdf⟩ := row_form hk.row
 subst hdf
 obtain ⟨Ac, Cc, hcf⟩ := row_form h.par.row
 subst hcf
 have hNlt := h.lt
 have hbox := h.box
 have b0 := be_fact (box_cell9 hbox 0 rfl) hNlt
 have b1 := be_fact (box_cell9 hbox 1 rfl) hNlt
 have b2 := be_fact (box_cell9 hbox 2 rfl) hNlt
 have b3 := be_fact (box_cell9 hbox 3 rfl) hNlt
 have hself := Below.refl w.heap.size w
 obtain ⟨np, hnp⟩ : ∃ np, Hid (np = f.params.length) := ⟨_, hide rfl⟩
 have hh := h
 have hkk := hk
 have cR : Hid (Calls Try.prog 22 #[f.v (.slice Ac np Cc) (.slice Ad n Cd)] w (ReachPost n R w)) := hide (by
  have := reach_any f _ _ w w.heap.size (Nat.le_refl _) h.rep hs
  rw [← hn.out, ← hR.out, ← hnp.out] at this
  exact this)
 rw [← hnp.out] at b1
 rw [← hn.out] at b3
 replace h := hide h
 replace hh := hide hh
 replace hk := hide hk
 replace hkk := hide hkk
 replace hT := hide hT
 replace hbox := hide hbox
 replace hwf := hide hwf
 replace hs := hide hs
 go_enter Try.func36, Try.ntmps36
 go_wp2_with (fail)
 refine cR.out.mono ?_
 rintro e w1 ⟨gr, rfl, hrr, hb1⟩
 obtain ⟨-, hrd⟩ := bool_reads hrr
 replace hrr := hide hrr
 replace hrd := hide hrd
 have hw1s := hb1.size
 have hself1 := Below.refl w1.heap.size w1
 have h1w : Hid (∀ w', Below w1.heap.size w1 w' → Below w.heap.size w w') := hide (fun w' hb => hb1.trans (hb.mono hw1s))
 have hno0 : Hid (∀ j, j < 0 → twB R f.blocks j = false) := hide (fun j hj => by omega)
 clear cR
 go_wp2
 go_loopw [11] (fun s wr => ∃ i : Nat, s = .int .i64 i ∧ i ≤ n ∧ Hid (∀ j, j < i → twB R f.blocks j = false) ∧ Below w1.heap.size w1 wr) (fun s _ => n - (intOf s).toNat)
 case atStart => exact ⟨0, rfl, Nat.zero_le _, hno0, hself1⟩
 case round =>
  clear hno0 hself1
  rename World => V
  obtain ⟨i, rfl, hi, hno, hbV⟩ := hrel
  have hbw := h1w.out V hbV
  have hVs := hbV.size
  by_cases hlt : i < n
  ·have hii : (i : Int) < (n : Int) := by omega
   obtain ⟨l, hl⟩ := get_ex (l := f.blocks) (k := i) (by rw [← hn.out]; exact hlt)
   obtain ⟨rb, hrb⟩ := get_ex (l := R) (k := i) (by rw [hRl.out]; exact hlt)
   have rr := hrd.out i rb hrb.out
   have rr0 := rr V hbV
   have hwl := hwf.out l (List.mem_of_getElem? hl.out)
   obtain ⟨x, es, hx, he, hcd⟩ := hk.out.row_at hl.out
   have hlpos : 0 < l.length := List.length_pos_iff.2 hwl.ne
   obtain ⟨gd, CD9, hgdf, -, hgd⟩ := hk.out.row.form (by rw [← hn.out]; omega)
   rw [← hn.out] at hgdf
   cases hgdf
   obtain ⟨gc, Cx, hxf, -, hgcl⟩ := hcd.row.form hlpos
   subst hxf
   obtain ⟨q, hq⟩ : ∃ q, Hid (l.length = q + 1) := ⟨l.length - 1, hide (by omega)⟩
   obtain ⟨m, hm⟩ : ∃ m, Hid (m = l.length) := ⟨_, hide rfl⟩
   rw [← hm.out] at hx
   obtain ⟨ins, hins⟩ := get_ex (l := l) (k := q) (by rw [hq.out]; omega)
   obtain ⟨ca, ct, hei, hva, hvt, hok⟩ := hcd.ins_at hins.out
   have hmem := List.mem_of_getElem? hins.out
   have hend := endI_at hl.out hq.out hins.out
   have hmb : m ≤ 9223372036854775807 := by rw [hm.out]; exact row_bound hcd.row
   have cE : Hid (Calls Try.prog 54 #[.pointer (some ⟨N, 0, none⟩), .int .i64 i] V fun e w' => e = .returned (.pointer (some ⟨gc, q * 7, none⟩)) ∧ w' = V) := hide (by
    have hk1 := hk.out.kept (w' := V) fun k _ hk => hbw.block k hk
    rw [← hn.out] at hk1
    exact tend_any (b3 V hbw) hn.out hk1 hx (by rw [hm.out, hq.out]) hmb)
   have hcdV : Hid (OwnCd V 0 (.slice (some ⟨gc, 0, none⟩) m Cx) l es) := hide (by
    have := hcd.kept (w' := V) fun k _ hk => hbw.block k hk
    rwa [← hm.out] at this)
   replace hx := hide hx
   replace he := hide he
   replace hei := hide hei
   replace hend := hide hend
   replace hmem := hide hmem
   replace hwl := hide hwl
   replace hok := hide hok
   go_wp2_with (fail)
   refine cE.out.mono ?_
   rintro e w2 ⟨rfl, hw2⟩
   rw [hw2]
   clear hw2
   obtain ⟨e0, e1, e2, e3, e4, e5, e6⟩ := cell7 hcdV.out hins.out hei.out
   have hstep : Hid (twB R f.blocks i = false → ∀ j, j < i + 1 → twB R f.blocks j = false) := hide (fun h9 j hj => by
    rcases Nat.lt_succ_iff_lt_or_eq.1 hj with h1 | h1
    ·exact hno.out j h1
    ·rw [h1]; exact h9)
   have hgetR : Hid (R.getD i false = rb) := hide (by rw [List.getD_eq_getElem?_getD, hrb.out]; rfl)
   cases rb with
   | false =>
    have hnx := hide (hstep.out (by unfold twB; rw [hgetR.out]; rfl))
    go_upto_region 5 with (fail)
    go_quiet (fail)
    have hbQ : Below w1.heap.size w1 _ := below_drewN hbV nq
    go_wp2
    go_roundw
    case rel => exact ⟨i + 1, by go_num, hlt, hnx, hbQ⟩
    case measure => simp [intOf]; omega
   | true =>
    by_cases h32 : ins.op = 32
    case neg =>
     have hnx := hide (hstep.out (by unfold twB; rw [hend.out]; simp [h32]))
     have g1 : (ins.op == 32) = false := by rw [beq_eq_false_iff_ne]; exact h32
     replace h32 := hide h32
     go_upto_region 5 with (fail)
     go_quiet (fail)
     have hbQ : Below w1.heap.size w1 _ := below_drewN hbV nq
     go_wp2
     go_roundw
     case rel => exact ⟨i + 1, by go_num, hlt, hnx, hbQ⟩
     case measure => simp [intOf]; omega
    have g1 : (ins.op == 32) = true := by rw [h32]; rfl
    obtain ⟨hto2, hargs1⟩ := hwl.out.brif ins hmem.out h32
    obtain ⟨t0, t1, hto⟩ : ∃ t0 t1, ins.to = [t0, t1] := by
     match h9 : ins.to, hto2 with
     | [a, b], _ => exact ⟨a, b, rfl⟩
    obtain ⟨At, Ct, hctf⟩ := row_form hvt.row
    subst hctf
    obtain ⟨gt, CT9, htf, -, hgtl⟩ := hvt.row.form (by rw [hto]; simp)
    rw [hto] at htf
    cases htf
    have hvr := hvt.row
    have hgtl' : gt < w.heap.size := hgtl
    have a0 := World.ownsRow.cellAt (n := 2) (by rw [hto] at hvr; exact hvr) 0 (by omega)
    have a1 := World.ownsRow.cellAt (n := 2) (by rw [hto] at hvr; exact hvr) 1 (by omega)
    simp only [hto, List.map_cons, List.map_nil, List.getElem?_cons_zero, List.getElem?_cons_succ] at a0 a1 e6
    have a0' := be_fact (w := w) (N := gt) (j := 0) a0 hgtl' V hbw
    have a1' := be_fact (w := w) (N := gt) (j := 1) a1 hgtl' V hbw
    by_cases htt : t0 = t1
    case neg =>
     have hnx := hide (hstep.out (by unfold twB; rw [hend.out]; simp [hto, htt]))
     have g2 : (t0 == t1) = false := by rw [beq_eq_false_iff_ne]; exact htt
     replace h32 := hide h32
     replace htt := hide htt
     replace hto := hide hto
     go_upto_region 5 with (fail)
     go_quiet (fail)
     have hbQ : Below w1.heap.size w1 _ := below_drewN hbV nq
     go_wp2
     go_roundw
     case rel => exact ⟨i + 1, by go_num, hlt, hnx, hbQ⟩
     case measure => simp [intOf]; omega
    have g2 : (t0 == t1) = true := by rw [beq_iff_eq]; exact htt
    have hI0 : Hid (I64 t0) := hide (hvt.ok t0 (by rw [hto]; simp))
    have hfound : Hid (res = some (f.blocks.set i (setEnd l (brI t0)))) := hide (by
     rw [hres.out]
     unfold twiceS
     rw [← hR.out, find_range (i := i) (by rw [← hn.out]; exact hlt) (by unfold twB; rw [hgetR.out, hend.out]; simp [h32, hto, htt]) hno.out]
     simp only [Option.map_some, hend.out, hto, List.getD_eq_getElem?_getD, hl.out, Option.getD_some, List.getElem?_cons_zero]
     rfl)
    have hse : Hid (setEnd l (brI t0) = l.set q (brI t0)) := hide (by unfold setEnd; rw [hq.out, Nat.add_sub_cancel])
    replace h32 := hide h32
    replace htt := hide htt
    replace hto := hide hto
    go_upto_region 5 with (fail)
    go_quiet (fail)
    have hbQ0 := below_drewN hbw nq
    obtain ⟨Q, hQ⟩ : ∃ Q, Hid (V.drewN nq = Q) := ⟨_, hide rfl⟩
    rw [hQ.out] at hbQ0 ⊢
    have hVQ : Hid (Below V.heap.size V Q) := hide (by rw [← hQ.out]; exact below_drewN (Below.refl _ _) nq)
    obtain ⟨e0, e1, e2, e3, e4, e5, e6⟩ := cell7 (hcdV.out.kept (w' := Q) fun k _ hk => hVQ.out.block k hk) hins.out hei.out
    simp only [hto.out, List.length_cons, List.length_nil] at e6
    have a0' := be_fact (w := w) (N := gt) (j := 0) a0 hgtl' Q hbQ0
    have hbQ := hide hbQ0
    clear a1 a1'
    go_wp2_with (fail)
    refine (tjump_any t0 hI0.out _).mono ?_
    rintro e X ⟨g, rfl, hIX, hbX⟩
    have hcX := (hcdV.out.kept (w' := Q) fun k _ hk => hVQ.out.block k hk).kept (w' := X) fun k _ hk => hbX.block k hk
    obtain ⟨x0, x1, x2, x3, x4, x5, x6⟩ := cell7 hcX hins.out hei.out
    have xz : ∀ j, X.frozen? ⟨gc, j, none⟩ = false := fun j => row_free hcX.row j
    have z0 := xz (q * 7)
    have z1 := xz (q * 7 + 1)
    have z2 := xz (q * 7 + 2)
    have z3 := xz (q * 7 + 3)
    have z4 := xz (q * 7 + 4)
    have z5 := xz (q * 7 + 5)
    have z6 := xz (q * 7 + 6)
    have hwX : Below w.heap.size w X := hbQ.out.trans (hbX.mono hbQ.out.size)
    have hfin : Hid (RulePost w T N f Cp res (.returned (.bool true)) (put7I X gc (q * 7) (brI t0) (.slice none 0 0) (.slice (some ⟨g, 0, none⟩) 1 1))) := hide (by
     have hkw := hk.out
     have h9 := MF.ins7 h.out hk.out hT.out hl.out (by rw [hm.out] at hx; exact hx.out) he.out hins.out hei.out hwX (c' := .slice none 0 0) (x := brI t0) OwnV.nil_ (hIX.mono hbQ.out.size) (brI_ok t0)
     rw [hfound.out, hse.out]
     exact ⟨_, _, _, fun k hk => hk, ⟨rfl, h9.1⟩, h9.2, fun k hk => .inl (hCp.out k hk)⟩)
    replace hIX := hide hIX
    replace hbX := hide hbX
    replace hcX := hide hcX
    clear xz
    go_wp2
    go_ret
    exact hfin.out
  ·obtain rfl : n = i := by omega
   have hfin : Hid (RulePost w T N f Cp res (.returned (.bool false)) V) := hide (RulePost.none_ (by
    rw [hres.out]
    unfold twiceS
    rw [← hR.out, find_range_none (by rw [← hn.out]; exact hno.out)]
    rfl) h.out (h1w.out V hbV) hCp.out)
   go_wp2
   go_ret
   exact hfin.out
end Go.Proofs.Ytamjcafjdioidaa

namespace Go.Proofs.Ytamjcafjdioidaa
open Go.RowKit
set_option linter.unusedSimpArgs false
set_option linter.unusedVariables false
theorem made_zeros {w : World} {B g n : Nat} (h : w.ownsRow B 3 1 (.slice (some ⟨g, 0, none⟩) n n) n (madeCells #[Value.int .i64 0] n).toList) : w.ownsRow B 3 1 (.slice (some ⟨g, 0, none⟩) n n) n ((List.replicate n (0 : Int)).map fun z => Value.int .i64 z) := by
 rw [toList_madeCells_one] at h
 rw [List.map_replicate]
 exact h
def OwnN (w : World) (B g n : Nat) (l : List Int) : Prop := w.ownsRow B 3 1 (.slice (some ⟨g, 0, none⟩) n n) n (l.map fun z => Value.int .i64 z)
section
variable {w w' : World} {B g n : Nat} {l : List Int}
theorem OwnN.len (h : OwnN w B g n l) : l.length = n := by have := h.1; simpa using this
theorem OwnN.cell (h : OwnN w B g n l) {k : Nat} {x : Int} (hk : l[k]? = some x) : w.cell? ⟨g, k, none⟩ = some (.int .i64 x) := by
 have := (List.getElem?_eq_some_iff.1 hk).1
 have hl := h.len
 rw [World.ownsRow.cellAt h k (by omega), List.getElem?_map, hk]; rfl
theorem OwnN.free (h : OwnN w B g n l) (k : Nat) : w.frozen? ⟨g, k, none⟩ = false := World.ownsRow.frozenAt h k
theorem OwnN.set_ (h : OwnN w B g n l) (k : Nat) (x : Int) : OwnN (w.setCell ⟨g, k, none⟩ (.int .i64 x)) B g n (l.set k x) := by
 have st := (World.ownsRow.stored h k (.int .i64 x)).1
 unfold OwnN
 rwa [List.map_set]
theorem OwnN.lt (h : OwnN w B g n l) : B ≤ g ∧ g < w.heap.size := ⟨(row_lt h rfl).1, (row_lt h rfl).2.1⟩
end
end Go.Proofs.Ytamjcafjdioidaa

namespace Go.Proofs.Ytamjcafjdioidaa
open Go.RowKit
set_option linter.unusedSimpArgs false
set_option linter.unusedVariables false
def Dom (sc : Int → List Int) (o : List Int) (a b : Int) : Prop := a ∈ o ∧ b ∈ o ∧ ¬ RchW sc a b
end Go.Proofs.Ytamjcafjdioidaa
namespace Go.Proofs.Ytamjcafjdioidaa
open Go.RowKit
set_option linter.unusedSimpArgs false
set_option linter.unusedVariables false
open Classical in
noncomputable def domB (sc : Int → List Int) (o : List Int) (a b : Int) : Bool := decide (Dom sc o a b)
theorem domB_iff {sc : Int → List Int} {o : List Int} {a b : Int} : domB sc o a b = true ↔ Dom sc o a b := by unfold domB; simp
end Go.Proofs.Ytamjcafjdioidaa

namespace Go.Proofs.Ytamjcafjdioidaa
set_option linter.unusedVariables false
def mv (a b x : Int) : Int := if x = a then b else if x = b then a else x
def setTo (x : Ins) (l : List Int) : Ins := { x with «to» := l }
end Go.Proofs.Ytamjcafjdioidaa

namespace Go.Proofs.Ytamjcafjdioidaa
open Go.RowKit
set_option linter.unusedSimpArgs false
set_option linter.unusedVariables false
def CopyTree (f : Fun) (w : World) (e : Ending) (w' : World) : Prop := ∃ c d L, e = .returned (f.v c d) ∧ OwnI w' w.heap.size c f.params ∧ (∀ k, c.ownBlock = some k → k < L) ∧ OwnK2 w' L d f.blocks ∧ w.heap.size ≤ L ∧ Below w.heap.size w w'
end Go.Proofs.Ytamjcafjdioidaa

namespace Go.Proofs.Ytamjcafjdioidaa
open Go.RowKit
set_option linter.unusedVariables false
def Done (i k j p q r : Nat) : Prop := p < i ∨ (p = i ∧ (q < k ∨ (q = k ∧ r < j)))
instance (i k j p q r : Nat) : Decidable (Done i k j p q r) := by unfold Done; exact inferInstance
def progTo (a b : Int) (i k j p q : Nat) (l : List Int) : List Int := l.mapIdx fun r t => if Done i k j p q r then mv a b t else t
def progIns (a b : Int) (i k j p q : Nat) (x : Ins) : Ins := setTo x (progTo a b i k j p q x.to)
def progCode (a b : Int) (i k j p : Nat) (c : List Ins) : List Ins := c.mapIdx fun q x => progIns a b i k j p q x
def prog (a b : Int) (i k j : Nat) (bs : List (List Ins)) : List (List Ins) := bs.mapIdx fun p c => progCode a b i k j p c
theorem cellsOf_set {l : List Ins} {es : List (Value × Value)} {k : Nat} {x x' : Ins} (hx : l[k]? = some x) (h : ∀ c d, insC x' c d = insC x c d) : cellsOf (l.set k x') es = cellsOf l es := by
 unfold cellsOf
 congr 1
 refine List.ext_getElem? fun q => ?_
 rw [List.getElem?_zipWith, List.getElem?_zipWith]
 by_cases hq : k = q
 ·subst hq
  rw [List.getElem?_set_self (List.getElem?_eq_some_iff.1 hx).1, hx]
  cases es[k]? with
  | none => rfl
  | some e => simp only [h]
 ·rw [List.getElem?_set_ne hq]
theorem nd_flat {ess : List (List (Value × Value))} (h : Nd (ess.flatten.map Prod.snd)) {p q : Nat} {es es' : List (Value × Value)} (hp : ess[p]? = some es) (hq : ess[q]? = some es') (hpq : p ≠ q) {e e' : Value × Value} (he : e ∈ es) (he' : e' ∈ es') {k : Nat} (hk : e.2.ownBlock = some k) : e'.2.ownBlock ≠ some k := by
 intro hk'
 have key : ∀ (p q : Nat) (es es' : List (Value × Value)) (e e' : Value × Value), p < q → ess[p]? = some es → ess[q]? = some es' → e ∈ es → e' ∈ es' → e.2.ownBlock = some k → e'.2.ownBlock = some k → False := by
  intro p q es es' e e' hpq hp hq he he' hk hk'
  have h1 : ess = ess.take q ++ ess.drop q := (List.take_append_drop q ess).symm
  unfold Nd at h
  rw [h1, List.flatten_append, List.map_append, List.filterMap_append, List.nodup_append] at h
  refine h.2.2 k (mem_own.2 ⟨e.2, List.mem_map.2 ⟨e, List.mem_flatten.2 ⟨es, ?_, he⟩, rfl⟩, hk⟩) k (mem_own.2 ⟨e'.2, List.mem_map.2 ⟨e', List.mem_flatten.2 ⟨es', ?_, he'⟩, rfl⟩, hk'⟩) rfl
  ·exact List.mem_of_getElem? (i := p) (by rw [List.getElem?_take, if_pos hpq]; exact hp)
  ·exact List.mem_of_getElem? (i := 0) (by rw [List.getElem?_drop, Nat.add_zero]; exact hq)
 rcases Nat.lt_or_ge p q with h1 | h1
 ·exact key p q es es' e e' h1 hp hq he he' hk hk'
 ·exact key q p es' es e' e (by omega) hq hp he' he hk' hk
theorem OwnKd.put_to {w : World} {B : Nat} {v : Value} {bs : List (List Ins)} {xs : List Value} {ess : List (List (Value × Value))} (h : OwnKd w B v bs xs ess) {i k j g n cap : Nat} {c : List Ins} {x : Ins} {es : List (Value × Value)} {cv : Value} {z : Int}
  (hc : bs[i]? = some c) (hes : ess[i]? = some es) (hx : c[k]? = some x) (he : es[k]? = some (cv, .slice (some ⟨g, 0, none⟩) n cap)) (hj : j < x.to.length) (hz : I64 z) :
  OwnKd (w.setCell ⟨g, j, none⟩ (.int .i64 z)) B v (bs.set i (c.set k (setTo x (x.to.set j z)))) xs ess := by
 have hil := (List.getElem?_eq_some_iff.1 hc).1
 have hkl := (List.getElem?_eq_some_iff.1 hx).1
 have hxi : xs[i]? = some (xs[i]'(by rw [h.lenx]; exact hil)) := List.getElem?_eq_getElem _
 have hci := h.inn i _ c es hxi hc hes
 obtain ⟨-, hto, -⟩ := hci.inn k x _ hx he
 have hn : n = x.to.length := by
  obtain ⟨A, C, e⟩ := row_form hto.row
  cases e; rfl
 subst hn
 have hbut := But.stored (j := j) (u := .int .i64 z) hto.row
 have hst := (World.ownsRow.stored hto.row j (.int .i64 z)).1
 rw [map_set] at hst
 have hfar : ∀ (u : Value) (l : List Int), OwnI w B u l → (u.ownBlock ≠ some g) → OwnI (w.setCell ⟨g, j, none⟩ (.int .i64 z)) B u l := fun u l hu hg =>
  ⟨row_kept hu.row fun k' hk' => Below.heap_setCell _ _ _ _ (fun e => hg (by have e' : k' = g := e; rw [hk', e'])), hu.ok⟩
 refine ⟨by rw [List.length_set]; exact hbut.row (by decide) h.row, by rw [List.length_set]; exact h.lene, fun p y d fs hy hd hf => ?_, h.ndx, h.nda, h.ndt⟩
 by_cases hip : i = p
 ·subst hip
  rw [List.getElem?_set_self hil] at hd
  rw [hes] at hf
  rw [hxi] at hy
  cases hd; cases hf; cases hy
  refine ⟨by rw [List.length_set]; exact hci.len, by rw [cellsOf_set (x' := setTo x (x.to.set j z)) hx (fun _ _ => rfl), List.length_set]; exact hbut.row (by decide) hci.row, fun q y e hy he' => ?_, hci.nda, hci.ndt⟩
  by_cases hkq : k = q
  ·subst hkq
   rw [List.getElem?_set_self hkl] at hy
   rw [he] at he'
   cases hy; cases he'
   obtain ⟨ha, ht, hok⟩ := hci.inn k x _ hx he
   exact ⟨⟨hbut.row (by decide) ha.row, ha.ok⟩, ⟨by show (w.setCell _ _).ownsRow B 3 1 _ (x.to.set j z).length _; rw [List.length_set]; exact hst, fun y hy => by
    rcases List.mem_or_eq_of_mem_set hy with hy | rfl
    ·exact ht.ok y hy
    ·exact hz⟩, hok⟩
  ·rw [List.getElem?_set_ne hkq] at hy
   obtain ⟨ha, ht, hok⟩ := hci.inn q y e hy he'
   refine ⟨⟨hbut.row (by decide) ha.row, ha.ok⟩, hfar _ _ ht ?_, hok⟩
   exact nd_ne hci.ndt (i := k) (j := q) (by rw [List.getElem?_map, he]; rfl) (by rw [List.getElem?_map, he']; rfl) hkq rfl
 ·rw [List.getElem?_set_ne hip] at hd
  have hcp := h.inn p y d fs hy hd hf
  refine ⟨hcp.len, hbut.row (by decide) hcp.row, fun q u e hu he' => ?_, hcp.nda, hcp.ndt⟩
  obtain ⟨ha, ht, hok⟩ := hcp.inn q u e hu he'
  refine ⟨⟨hbut.row (by decide) ha.row, ha.ok⟩, hfar _ _ ht ?_, hok⟩
  exact nd_flat h.ndt hes hf hip (List.mem_of_getElem? he) (List.mem_of_getElem? he') rfl
end Go.Proofs.Ytamjcafjdioidaa
