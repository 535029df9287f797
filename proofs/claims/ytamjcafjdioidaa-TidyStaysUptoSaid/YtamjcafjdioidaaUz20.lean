/- Texts of the chain, without what is not wanted: IcA, IcB. No condition but sizes. -/
import Derived.WalkKit
import Derived.Deep.Slices
import Derived.Deep.Draws
import Derived.ChangeSame
import Derived.ChangeOld
import Derived.OwnWalk
import Derived.Laws.OwnMore
import Derived.Deep.AppendLies
import Derived.Test.YtamjcafjdioidaaRows
import Derived.ProofKit
import Derived.OpenShut
import Derived.JoinedCond
import Derived.WalkSpells
import Derived.WalkLawsBesides
import Derived.Deep.RegionHeld3
import Derived.Deep.LoopGhost
import Derived.Deep.QuietTactic
import Derived.BigQuiet
import Derived.Deep.DeepCutAuto
import Derived.Deep.CutBlock
import Derived.Lib.SliceRun
import Derived.Deep.RegionLaw
import Derived.Test.YtamjcafjdioidaaUz01
import Derived.Test.YtamjcafjdioidaaUz02
import Derived.Test.YtamjcafjdioidaaUz04
import Derived.Test.YtamjcafjdioidaaUz16
namespace Go.Proofs.Ytamjcafjdioidaa
open Go.RowKit
set_option linter.unusedSimpArgs false
set_option linter.unusedVariables false
def CloneIPost (l : List Int) (w : World) (e : Ending) (w' : World) : Prop := ∃ v, e = .returned v ∧ OwnI w' w.heap.size v l ∧ Below w.heap.size w w'
def CloneVPost (l : List Opd) (w : World) (e : Ending) (w' : World) : Prop := ∃ v, e = .returned v ∧ OwnV w' w.heap.size v l ∧ Below w.heap.size w w'
set_option maxRecDepth 100000 in
theorem clone_nums (v : Value) (l : List Int) (w : World) (hr : RInts.rep w w.heap.size [v] l) (hl : l.length ≤ 2000000) :
  Calls Try.prog 52 #[v] w (CloneIPost l w) := by
 obtain ⟨A, cap, hv, hl9, -⟩ := Rp.slice1_open hr
 cases hv
 obtain ⟨-, hn, hok, hs⟩ := ints_src hr
 obtain ⟨n, hnl⟩ : ∃ n, Hid (n = l.length) := ⟨_, hide rfl⟩
 rw [← hnl.out] at hl hn ⊢
 obtain ⟨i0, hi0, hz0, hz1, hz2⟩ := cinfo_parts cinfo_int
 replace hi0 := hide hi0
 replace hz0 := hide hz0
 replace hz1 := hide hz1
 replace hz2 := hide hz2
 replace hok := hide hok
 replace hn := hide hn
 have hb0 := (Below.refl w.heap.size w).alloc (Nat.le_refl _) (.cells #[] 3)
 have hsrc := hide (hs _ hb0)
 have hown0 := hide (World.ownsRow_lit (base := w.heap.size) (e := 3) (size := 1) w #[] 0 (Nat.le_refl _) (Nat.zero_le _) rfl)
 replace hb0 := hide hb0
 clear hs hr
 cases A with
 | none =>
  have hl0 : l = [] := List.eq_nil_of_length_eq_zero (by have := hn.out rfl; have := hnl.out; omega)
  have hnil : ∀ w' : World, (binOp .eql 29 (.slice none n cap) (.slice none 0 0)).run Try.prog w' = .ok (.bool true) w' := fun w' => Lib.run_eql_slice_nil w' _ _ _ _ _ _ _ Try.underlying29
  replace hl0 := hide hl0
  go_enter Try.func52, Try.ntmps52
  go_wp2
  go_ret
  exact ⟨_, rfl, by rw [hl0.out]; exact OwnI.nil_, Below.refl _ _⟩
 | some ad =>
  have hnil : ∀ w' : World, (binOp .eql 29 (.slice (some ad) n cap) (.slice none 0 0)).run Try.prog w' = .ok (.bool false) w' := fun w' => Lib.run_eql_slice_nil w' _ _ _ _ _ _ _ Try.underlying29
  go_enter Try.func52, Try.ntmps52
  go_wp2_with (at_builtin; refine wpList_append_any _ rfl (.tmp 5) (.tmp 6) _ rfl w.heap.size 3 i0 _ 1 8 Try.underlying29 hi0.out hz0.out hz1.out hz2.out rfl (by omega) (.slice (some ⟨w.heap.size, 0, none⟩) 0 0) 0 [] rfl hown0.out (some ad) n cap (l.map fun z => Value.int .i64 z) rfl (by rw [List.length_map, ← hnl.out]; omega) (fun e => by cases e) hsrc.out (ints_one _) (by unfold maxLen; omega) (by omega) (by simp) ?_; intro v1 Y hownY hgY; replace hownY := hide hownY; replace hgY := hide hgY)
  go_wp2
  go_ret
  refine ⟨v1, rfl, ⟨?_, hok.out⟩, hb0.out.grown hgY.out (by simp) (fun k hk => by simp [Value.ownBlock] at hk; omega)⟩
  have := hownY.out
  rw [Nat.zero_add, List.nil_append, hnl.out] at this
  exact this
set_option maxRecDepth 100000 in
theorem clone_vals (v : Value) (l : List Opd) (w : World) (hr : ROpds.rep w w.heap.size [v] l) (hl : l.length ≤ 2000000) :
  Calls Try.prog 53 #[v] w (CloneVPost l w) := by
 obtain ⟨A, cap, hv, hl9, -⟩ := Rp.slice_open hr
 cases hv
 obtain ⟨-, hn, hok, hs⟩ := opds_src hr
 obtain ⟨n, hnl⟩ : ∃ n, Hid (n = l.length) := ⟨_, hide rfl⟩
 rw [← hnl.out] at hl hn ⊢
 obtain ⟨i0, hi0, hz0, hz1, hz2⟩ := cinfo_parts cinfo_Value
 replace hi0 := hide hi0
 replace hz0 := hide hz0
 replace hz1 := hide hz1
 replace hz2 := hide hz2
 replace hok := hide hok
 replace hn := hide hn
 have hb0 := (Below.refl w.heap.size w).alloc (Nat.le_refl _) (.cells #[] 42)
 have hsrc := hide (hs _ hb0)
 have hown0 := hide (World.ownsRow_lit (base := w.heap.size) (e := 42) (size := 3) w #[] 0 (Nat.le_refl _) (Nat.zero_le _) rfl)
 replace hb0 := hide hb0
 clear hs hr
 cases A with
 | none =>
  have hl0 : l = [] := List.eq_nil_of_length_eq_zero (by have := hn.out rfl; have := hnl.out; omega)
  have hnil : ∀ w' : World, (binOp .eql 37 (.slice none n cap) (.slice none 0 0)).run Try.prog w' = .ok (.bool true) w' := fun w' => Lib.run_eql_slice_nil w' _ _ _ _ _ _ _ Try.underlying37
  replace hl0 := hide hl0
  go_enter Try.func53, Try.ntmps53
  go_wp2
  go_ret
  exact ⟨_, rfl, by rw [hl0.out]; exact OwnV.nil_, Below.refl _ _⟩
 | some ad =>
  have hnil : ∀ w' : World, (binOp .eql 37 (.slice (some ad) n cap) (.slice none 0 0)).run Try.prog w' = .ok (.bool false) w' := fun w' => Lib.run_eql_slice_nil w' _ _ _ _ _ _ _ Try.underlying37
  go_enter Try.func53, Try.ntmps53
  go_wp2_with (at_builtin; refine wpList_append_any _ rfl (.tmp 5) (.tmp 6) _ rfl w.heap.size 42 i0 _ 3 24 Try.underlying37 hi0.out hz0.out hz1.out hz2.out rfl (by omega) (.slice (some ⟨w.heap.size, 0, none⟩) 0 0) 0 [] rfl hown0.out (some ad) n cap (l.flatMap oc) rfl (by rw [oc_len, ← hnl.out]) (fun e => by cases e) hsrc.out (oc_one _) (by unfold maxLen; omega) (by omega) (by simp) ?_; intro v1 Y hownY hgY; replace hownY := hide hownY; replace hgY := hide hgY)
  go_wp2
  go_ret
  refine ⟨v1, rfl, ⟨?_, hok.out⟩, hb0.out.grown hgY.out (by simp) (fun k hk => by simp [Value.ownBlock] at hk; omega)⟩
  have := hownY.out
  rw [Nat.zero_add, List.nil_append, hnl.out] at this
  exact this
end Go.Proofs.Ytamjcafjdioidaa

namespace Go.Proofs.Ytamjcafjdioidaa
open Go.RowKit
set_option linter.unusedSimpArgs false
set_option linter.unusedVariables false
set_option maxRecDepth 100000 in
set_option maxHeartbeats 12000000 in
theorem icopytree_any (f : Fun) (c1 d1 : Value) (w : World) (B : Nat) (hB : B ≤ w.heap.size) (hf : RFun.rep w B [.string f.name, c1, .int .i64 f.ret, d1] f) (hs : Small f) :
  Calls Try.prog 34 #[f.v c1 d1] w (CopyTree f w) := by
 obtain ⟨hp, hb⟩ := fun_open (RFun.later hf (Below.refl _ _) hB)
 obtain ⟨A0, k0, hc1, -, -⟩ := Rp.slice1_open hp
 cases hc1
 obtain ⟨-, hpn, hpo, hps⟩ := ints_src hp
 obtain ⟨A1, k1, rfl, hl1, ga⟩ := blks_at hb
 have hprep : Hid (RInts.rep w w.heap.size [.slice A0 f.params.length k0] f.params) := hide hp
 clear hf hp hb
 obtain ⟨np, hnp⟩ : ∃ np, Hid (np = f.params.length) := ⟨_, hide rfl⟩
 obtain ⟨n, hn⟩ : ∃ n, Hid (n = f.blocks.length) := ⟨_, hide rfl⟩
 have hnp8 := hs.params
 have hn8 := hs.blocks
 have hcode := hide hs.code
 rw [← hnp.out] at hpn hnp8 hprep ⊢
 rw [← hn.out] at hl1 hn8 ⊢
 obtain ⟨W, hW, hwW, hWs, hx, -⟩ := boxes2 w #[.string f.name, .slice A0 np k0, .int .i64 f.ret, .slice A1 n k1] #[.string ⟨#[]⟩, .slice none 0 0, .int .i64 0, .slice none 0 0] 32 32
 have hR : W.heap[w.heap.size + 1]? = some (.cells #[.string ⟨#[]⟩, .slice none 0 0, .int .i64 0, .slice none 0 0] 32 (0, 0)) := by
  rw [← hW]
  have := box_top (w.alloc (.cells #[.string f.name, .slice A0 np k0, .int .i64 f.ret, .slice A1 n k1] 32)) (.cells #[.string ⟨#[]⟩, .slice none 0 0, .int .i64 0, .slice none 0 0] 32)
  simpa using this
 have x0 := hx 0 _ rfl
 have x1 := hx 1 _ rfl
 have x2 := hx 2 _ rfl
 have x3 := hx 3 _ rfl
 clear hx
 have hws : w.heap.size + 1 < W.heap.size := by omega
 replace hWs := hide hWs
 replace hW := hide hW
 replace hR := hide hR
 obtain ⟨i0, hi0, hz0, hz1, hz2⟩ := cinfo_parts cinfo_int
 obtain ⟨j0, hj0, hj1, hj2, hj3⟩ := cinfo_parts cinfo_Value
 obtain ⟨m0, hm0, hm1, hm2, hm3⟩ := cinfo_parts cinfo_Instr
 obtain ⟨p0, hp0, hp1, hp2, hp3⟩ := cinfo_parts cinfo_Block
 replace hi0 := hide hi0
 replace hz0 := hide hz0
 replace hz1 := hide hz1
 replace hz2 := hide hz2
 replace hj0 := hide hj0
 replace hj1 := hide hj1
 replace hj2 := hide hj2
 replace hj3 := hide hj3
 replace hm0 := hide hm0
 replace hm1 := hide hm1
 replace hm2 := hide hm2
 replace hm3 := hide hm3
 replace hp0 := hide hp0
 replace hp1 := hide hp1
 replace hp2 := hide hp2
 replace hp3 := hide hp3
 replace ga := hide ga
 replace hpn := hide hpn
 replace hpo := hide hpo
 replace hps := hide hps
 replace hs := hide hs
 have hself := Below.refl W.heap.size W
 go_enter Try.func34, Try.ntmps34
 go_upto_region 1 with (fail)
 rw [hW.out]
 clear hW
 go_upto_region 2 with (fail)
 have hN3 := box_top W (.cells #[.string f.name, .slice A0 np k0, .int .i64 f.ret, .slice A1 n k1] 32)
 have hWU := hself.alloc (Nat.le_refl _) (.cells #[.string f.name, .slice A0 np k0, .int .i64 f.ret, .slice A1 n k1] 32)
 obtain ⟨U, hU⟩ : ∃ U, U = W.alloc (.cells #[.string f.name, .slice A0 np k0, .int .i64 f.ret, .slice A1 n k1] 32) := ⟨_, rfl⟩
 have hUs : U.heap.size = W.heap.size + 1 := by rw [hU]; simp
 rw [← hU] at hN3 hWU ⊢
 clear hU
 obtain ⟨N3, hNe⟩ : ∃ N3, N3 = W.heap.size := ⟨_, rfl⟩
 have hN3w : w.heap.size + 1 < N3 := by rw [hNe]; exact hws
 have hNU : N3 < U.heap.size := by omega
 have y0 : ∀ w', Below N3 U w' → w'.cell? ⟨w.heap.size, 0, none⟩ = some (.string f.name) := fun w' h => x0 w' (by rw [← hNe]; exact (hNe ▸ hWU).trans h)
 have y1 : ∀ w', Below N3 U w' → w'.cell? ⟨w.heap.size, 1, none⟩ = some (.slice A0 np k0) := fun w' h => x1 w' (by rw [← hNe]; exact (hNe ▸ hWU).trans h)
 have y2 : ∀ w', Below N3 U w' → w'.cell? ⟨w.heap.size, 2, none⟩ = some (.int .i64 f.ret) := fun w' h => x2 w' (by rw [← hNe]; exact (hNe ▸ hWU).trans h)
 have y3 : ∀ w', Below N3 U w' → w'.cell? ⟨w.heap.size, 3, none⟩ = some (.slice A1 n k1) := fun w' h => x3 w' (by rw [← hNe]; exact (hNe ▸ hWU).trans h)
 have hwU : Hid (Below w.heap.size w U) := hide (hwW.trans (hWU.mono (by omega)))
 have hRU : Hid (U.heap[w.heap.size + 1]? = some (.cells #[.string ⟨#[]⟩, .slice none 0 0, .int .i64 0, .slice none 0 0] 32 (0, 0))) := hide ((hWU.block _ hws).trans hR.out)
 rw [← hNe] at hN3 ⊢
 clear x0 x1 x2 x3 hself hWU hwW hR hUs hNe hws hWs
 have hselfU := Below.refl N3 U
 have hselfUU := Below.refl U.heap.size U
 have cP := hide (clone_nums (.slice A0 np k0) f.params U (RInts.later hprep.out (hwU.out) hwU.out.size) (by rw [← hnp.out]; exact hnp8))
 go_upto_region 4 with (first
  | (go_at_call 52
     refine cP.out.mono ?_
     rintro e Y ⟨v1, rfl, hOI0, hbY⟩
     obtain ⟨Av, Cv, hv1⟩ := row_form hOI0.row
     subst hv1
     rw [← hnp.out] at hOI0 ⊢
     have hNY := hide ((hbY.block N3 hNU).trans hN3)
     have t1 := (box4 hNY.out).2.1
     have t3 := (box4 hNY.out).2.2.2
     have ft1 := one_free (j := 1) hNY.out
     have ft3 := one_free (j := 3) hNY.out
     have hOI1 := hide hOI0
     have hbY1 := hide hbY
     clear hOI0 hbY))
 have hNV := set_heap (j := 3) (v := (Value.slice none 0 0)) (set_heap (j := 1) (v := (Value.slice Av np Cv)) hNY.out)
 have hOI : Hid (OwnI ((Y.setCell ⟨N3, 1, none⟩ (Value.slice Av np Cv)).setCell ⟨N3, 3, none⟩ (Value.slice none 0 0)) U.heap.size (Value.slice Av np Cv) f.params) := hide (hOI1.out.kept fun k hk _ => (Below.heap_setCell _ _ _ _ (by show k ≠ N3; omega)).trans (Below.heap_setCell _ _ _ _ (by show k ≠ N3; omega)))
 have hbV := (((hbY1.out.mono (Nat.le_of_lt hNU)).setCell (p := ⟨N3, 1, none⟩) (Nat.le_refl _) (Value.slice Av np Cv)).setCell (p := ⟨N3, 3, none⟩) (Nat.le_refl _) (Value.slice none 0 0) : Below N3 U _)
 obtain ⟨V, hV⟩ : ∃ V, V = (Y.setCell ⟨N3, 1, none⟩ (Value.slice Av np Cv)).setCell ⟨N3, 3, none⟩ (Value.slice none 0 0) := ⟨_, rfl⟩
 rw [← hV] at hNV hOI hbV ⊢
 have hPlo : Hid (∀ k, Value.ownBlock (.slice Av np Cv) = some k → k < V.heap.size) := hide (fun k hk => (row_lt hOI.out.row hk).2.1)
 clear hV hNY t1 t3 ft1 ft3 hbY1 hOI1 hselfU hselfUU hN3 cP
 have hNV' : Hid (V.heap[N3]? = some (.cells #[.string f.name, (Value.slice Av np Cv), .int .i64 f.ret, .slice none 0 0] 32 (0, 0))) := hide (by simpa using hNV)
 clear hNV
 go_wp2_with fail
 go_loopw [18] (fun u4 wr => ∃ (k : Nat) (u : Value), k ≤ n ∧ u4 = .int .i64 k ∧ Hid (wr.heap[N3]? = some (.cells #[.string f.name, (Value.slice Av np Cv), .int .i64 f.ret, u] 32 (0, 0))) ∧ Hid (OwnI wr U.heap.size (Value.slice Av np Cv) f.params) ∧ Hid (OwnK2 wr V.heap.size u (f.blocks.take k)) ∧ Below N3 U wr ∧ Hid (V.heap.size ≤ wr.heap.size)) (fun u4 _ => n - (intOf u4).toNat)
 case atStart => exact ⟨0, _, Nat.zero_le _, rfl, hNV', hOI, hide OwnK2.nil_, hbV, hide (Nat.le_refl _)⟩
 case round =>
  have hUV : U.heap.size ≤ V.heap.size := hbV.size
  clear hNV' hOI hbV
  obtain ⟨k, u, hk, rfl, hNr, hOI, hOK, hbel, hUr⟩ := hrel
  by_cases hlt : k < n
  ·obtain ⟨q1, o1, rfl, he1⟩ := ga.out (by rw [← hn.out]; omega)
   obtain ⟨x, hx⟩ := get_ex (l := f.blocks) (k := k) (by rw [← hn.out]; exact hlt)
   obtain ⟨A3, k3, c3, hl3, gx⟩ := he1 k x hx.out
   have d3 : ∀ w', Below N3 U w' → w'.cell? ⟨q1, o1 + k, none⟩ = some (.slice A3 x.length k3) := fun w' h => c3 w' (hwU.out.trans (h.mono (by omega)))
   obtain ⟨m, hm⟩ : ∃ m, Hid (m = x.length) := ⟨_, hide rfl⟩
   have hxm := hcode.out x (List.mem_of_getElem? hx.out)
   rw [← hm.out] at d3 hl3 hxm
   have hm8 := hxm.1
   have hcx := hide hxm.2
   replace gx := hide gx
   clear c3 he1 hxm
   have hself0 := Below.refl wr.heap.size wr
   obtain ⟨w0, hw0⟩ : ∃ w0, w0 = wr := ⟨_, rfl⟩
   rw [← hw0] at hNr hOI hOK hbel hUr hself0 ⊢
   clear hw0
   have hN0 : Hid (N3 < w0.heap.size) := hide (by have := hUr.out; omega)
   go_upto_region 8 with (fail)
   obtain ⟨w1, hw1, hb01, hw1s, hz5, hz6⟩ := boxes2 w0 #[.slice A3 m k3] #[.slice none 0 0] 36 36
   have hN6 : Hid (w1.heap[w0.heap.size + 1]? = some (.cells #[.slice none 0 0] 36 (0, 0))) := hide (by
    rw [← hw1]
    have := box_top (w0.alloc (.cells #[.slice A3 m k3] 36)) (.cells #[.slice none 0 0] 36)
    simpa using this)
   have e5 : ∀ w', Below w1.heap.size w1 w' → w'.cell? ⟨w0.heap.size, 0, none⟩ = some (.slice A3 m k3) := hz5 0 _ rfl
   rw [hw1]
   obtain ⟨N6, hN6e⟩ : ∃ N6, N6 = w0.heap.size + 1 := ⟨_, rfl⟩
   rw [← hN6e] at hN6 ⊢
   have h06 : w0.heap.size ≤ N6 := by omega
   have h61 : N6 < w1.heap.size := by omega
   have hself1 := Below.refl w1.heap.size w1
   have hb011 := hide hb01
   replace hw1s := hide hw1s
   replace hN6e := hide hN6e
   clear hz5 hz6 hw1 hb01 hself0
   go_wp2_with fail
   go_loopw [25] (fun u6 wr => ∃ (j : Nat) (u : Value), j ≤ m ∧ u6 = .int .i64 j ∧ Hid (wr.heap[N6]? = some (.cells #[u] 36 (0, 0))) ∧ Hid (OwnC2 wr w1.heap.size u (x.take j)) ∧ Below w0.heap.size w0 wr ∧ Hid (w1.heap.size ≤ wr.heap.size)) (fun u6 _ => m - (intOf u6).toNat)
   case atStart => exact ⟨0, _, Nat.zero_le _, rfl, hN6, hide OwnC2.nil_, hb011.out, hide (Nat.le_refl _)⟩
   case round =>
    clear hself1 e5 hN6
    obtain ⟨j, u5, hj, rfl, hN6, hOC, hb0, hs1⟩ := hrel
    have hbr : Below N3 U wr := hbel.trans (hb0.mono (Nat.le_of_lt hN0.out))
    have hs0 := hb0.size
    by_cases hlt2 : j < m
    ·obtain ⟨q2, o2, rfl, hi1⟩ := gx.out (by rw [← hm.out]; omega)
     obtain ⟨ins, hins⟩ := get_ex (l := x) (k := j) (by rw [← hm.out]; exact hlt2)
     obtain ⟨ca, da, hra, hca⟩ := hi1 j ins hins.out
     obtain ⟨ra, rt⟩ := ins_open hra
     have hiok : Hid (InsOk ins) := hide (by obtain ⟨_, _, _, _, _, h5⟩ := hra; exact h5)
     obtain ⟨A5, k5, hca5, -, -⟩ := Rp.slice_open ra
     obtain ⟨A6, k6, hda6, -, -⟩ := Rp.slice1_open rt
     cases hca5
     cases hda6
     obtain ⟨na, hna⟩ : ∃ na, Hid (na = ins.args.length) := ⟨_, hide rfl⟩
     obtain ⟨nt, hnt⟩ : ∃ nt, Hid (nt = ins.to.length) := ⟨_, hide rfl⟩
     have hszi := hcx.out ins (List.mem_of_getElem? hins.out)
     rw [← hna.out] at hszi hca ra
     rw [← hnt.out] at hszi hca rt
     have hsa := hszi.1
     have hst := hszi.2
     obtain ⟨e0, e1, e2, e3, e4, e5, e6⟩ := hca.seven
     have a0 : ∀ w', Below N3 U w' → w'.cell? ⟨q2, o2 + j * 7, none⟩ = some (.int .i64 ins.op) := fun w' h => e0 w' (hwU.out.trans (h.mono (by omega)))
     have a1 : ∀ w', Below N3 U w' → w'.cell? ⟨q2, o2 + j * 7 + 1, none⟩ = some (.int .i64 ins.reg) := fun w' h => e1 w' (hwU.out.trans (h.mono (by omega)))
     have a2 : ∀ w', Below N3 U w' → w'.cell? ⟨q2, o2 + j * 7 + 2, none⟩ = some (.int .i64 ins.ty) := fun w' h => e2 w' (hwU.out.trans (h.mono (by omega)))
     have a3 : ∀ w', Below N3 U w' → w'.cell? ⟨q2, o2 + j * 7 + 3, none⟩ = some (.int .i64 ins.num) := fun w' h => e3 w' (hwU.out.trans (h.mono (by omega)))
     have a4 : ∀ w', Below N3 U w' → w'.cell? ⟨q2, o2 + j * 7 + 4, none⟩ = some (.int .i64 ins.flags) := fun w' h => e4 w' (hwU.out.trans (h.mono (by omega)))
     have a5 : ∀ w', Below N3 U w' → w'.cell? ⟨q2, o2 + j * 7 + 5, none⟩ = some (.slice A5 na k5) := fun w' h => e5 w' (hwU.out.trans (h.mono (by omega)))
     have a6 : ∀ w', Below N3 U w' → w'.cell? ⟨q2, o2 + j * 7 + 6, none⟩ = some (.slice A6 nt k6) := fun w' h => e6 w' (hwU.out.trans (h.mono (by omega)))
     clear e0 e1 e2 e3 e4 e5 e6
     obtain ⟨A50, C50, hu50⟩ := (show ∃ A C, u5 = .slice A j C by
      have := hOC.out.form
      rw [List.length_take, show min j x.length = j by have := hm.out; omega] at this
      exact this)
     subst hu50
     have hwr : Hid (Below w.heap.size w wr) := hide (hwU.out.trans (hbr.mono (by omega)))
     go_upto_region 11 with (fail)
     have hB7 := box_top wr (.cells #[.int .i64 ins.op, .int .i64 ins.reg, .int .i64 ins.ty, .int .i64 ins.num, .int .i64 ins.flags, .slice A5 na k5, .slice A6 nt k6] 39)
     have hbX := (Below.refl wr.heap.size wr).alloc (Nat.le_refl _) (.cells #[.int .i64 ins.op, .int .i64 ins.reg, .int .i64 ins.ty, .int .i64 ins.num, .int .i64 ins.flags, .slice A5 na k5, .slice A6 nt k6] 39)
     obtain ⟨X1, hX1e⟩ : ∃ X1, X1 = wr.alloc (.cells #[.int .i64 ins.op, .int .i64 ins.reg, .int .i64 ins.ty, .int .i64 ins.num, .int .i64 ins.flags, .slice A5 na k5, .slice A6 nt k6] 39) := ⟨_, rfl⟩
     have hX1s : X1.heap.size = wr.heap.size + 1 := by rw [hX1e]; simp
     rw [← hX1e] at hB7 hbX ⊢
     obtain ⟨N7, hN7⟩ : ∃ N7, N7 = wr.heap.size := ⟨_, rfl⟩
     have hN7X : N7 < X1.heap.size := by omega
     have hwX : Hid (Below w.heap.size w X1) := hide (hwr.out.trans (hbX.mono hwr.out.size))
     have hXr : Hid (wr.heap.size ≤ X1.heap.size) := hide (by omega)
     have hbXr := hide hbX
     rw [← hN7] at hB7 ⊢
     have hN7' := hide hN7
     replace hX1s := hide hX1s
     clear hX1e a0 a1 a2 a3 a4 a5 a6 hi1 hca hbX hN7
     have hselfX := Below.refl X1.heap.size X1
     have b0 : ∀ w', Below X1.heap.size X1 w' → w'.cell? ⟨N7, 5, none⟩ = some (.slice A5 na k5) := fun w' h => (h.cell (p := ⟨N7, 5, none⟩) hN7X).trans (box7 hB7).2.2.2.2.2.1
     have b1 : ∀ w', Below X1.heap.size X1 w' → w'.cell? ⟨N7, 6, none⟩ = some (.slice A6 nt k6) := fun w' h => (h.cell (p := ⟨N7, 6, none⟩) hN7X).trans (box7 hB7).2.2.2.2.2.2
     have cA : Hid (∀ w', Below X1.heap.size X1 w' → Calls Try.prog 53 #[.slice A5 na k5] w' (CloneVPost ins.args w')) := hide (fun w' h => by
      have hh := hwX.out.trans (h.mono hwX.out.size)
      exact clone_vals _ _ w' (ROpds.later ra hh hh.size) (by rw [← hna.out]; exact hsa))
     have cT : Hid (∀ w', Below X1.heap.size X1 w' → Calls Try.prog 52 #[.slice A6 nt k6] w' (CloneIPost ins.to w')) := hide (fun w' h => by
      have hh := hwX.out.trans (h.mono hwX.out.size)
      exact clone_nums _ _ w' (RInts.later rt hh hh.size) (by rw [← hnt.out]; exact hst))
     have hB7' := hide hB7
     clear hB7 ra rt hra
     go_region_law (first
      | (go_simp
         go_at_call 53
         refine (cA.out _ (hselfX.drew)).mono ?_
         rintro e Y1 ⟨va, rfl, hOV1, hbY1⟩
         have hkY1 : Below X1.heap.size X1 Y1 := (hselfX.drew).trans hbY1
         have hOVh : Hid (OwnV Y1 X1.heap.size va ins.args) := hide hOV1
         clear hOV1 hbY1)
      | (go_simp
         go_at_call 52
         refine (cT.out _ hkY1).mono ?_
         rintro e Y2 ⟨vt, rfl, hOT2, hbY2⟩
         have hkY2 : Below X1.heap.size X1 Y2 := hkY1.trans (hbY2.mono hkY1.size)
         have hOV2 := hide (hOVh.out.kept (w' := Y2) fun k _ hk => hbY2.block k hk)
         have hOTh : Hid (OwnI Y2 X1.heap.size vt ins.to) := hide (hOT2.mono hkY1.size)
         have hs12 := hide (show X1.heap.size ≤ Y1.heap.size from hkY1.size)
         obtain ⟨Aa, Ca, hva⟩ := row_form hOV2.out.row
         obtain ⟨At, Ct, hvt⟩ := row_form hOTh.out.row
         rw [← hna.out] at hva
         rw [← hnt.out] at hvt
         subst hva
         subst hvt
         have hB2 := (hkY2.block N7 hN7X).trans hB7'.out
         have t5 := (box7 hB2).2.2.2.2.2.1
         have t6 := (box7 hB2).2.2.2.2.2.2
         have f5 := one_free (j := 5) hB2
         have f6 := one_free (j := 6) hB2
         have hB4 := hide (set_heap (j := 6) (v := .slice At nt Ct) (set_heap (j := 5) (v := .slice Aa na Ca) hB2))
         clear hB2 hOT2 hbY2))
     all_goals
      obtain ⟨Y4, hY4⟩ : ∃ Y4, Y4 = (Y2.setCell ⟨N7, 5, none⟩ (.slice Aa na Ca)).setCell ⟨N7, 6, none⟩ (.slice At nt Ct) := ⟨_, rfl⟩
      have hN7e := hN7'.out
      have hXs1 := hXr.out
      have hs1o := hs1.out
      have hY4far : ∀ k, k ≠ N7 → Y4.heap[k]? = Y2.heap[k]? := fun k hk => by rw [hY4, Below.heap_setCell _ _ _ _ hk, Below.heap_setCell _ _ _ _ hk]
      have hbr4 : Below wr.heap.size wr Y4 := by
       rw [hY4]
       exact ((hbXr.out.trans (hkY2.mono hXs1)).setCell (p := ⟨N7, 5, none⟩) (by show wr.heap.size ≤ N7; omega) _).setCell (p := ⟨N7, 6, none⟩) (by show wr.heap.size ≤ N7; omega) _
      have hB5 : Y4.heap[N7]? = some (.cells #[.int .i64 ins.op, .int .i64 ins.reg, .int .i64 ins.ty, .int .i64 ins.num, .int .i64 ins.flags, .slice Aa na Ca, .slice At nt Ct] 39 (0, 0)) := by rw [hY4]; simpa using hB4.out
      rw [← hY4]
      clear hY4 t5 t6 f5 f6 hB4 b0 b1 hselfX
      obtain ⟨z0, z1, z2, z3, z4, z5, z6⟩ := box7 hB5
      have hV4 : Hid (OwnV Y4 w1.heap.size (.slice Aa na Ca) ins.args) := hide ((hOV2.out.kept fun k h1 _ => hY4far k (by omega)).mono (by omega))
      have hs12o := hs12.out
      have hT4 : Hid (OwnI Y4 w1.heap.size (.slice At nt Ct) ins.to) := hide ((hOTh.out.kept fun k h1 _ => hY4far k (by omega)).mono (by omega))
      obtain ⟨xs, hown, hmore⟩ := hOC.out.more (w1 := Y4) fun k _ hk => hbr4.block k hk
      have hVlo : Hid (∀ k, Value.ownBlock (.slice Aa na Ca) = some k → wr.heap.size ≤ k) := hide (fun k hk => by have := (row_lt hOV2.out.row hk).1; omega)
      have hTlo : Hid (∀ k, Value.ownBlock (.slice At nt Ct) = some k → wr.heap.size ≤ k) := hide (fun k hk => by have := (row_lt hOTh.out.row hk).1; omega)
      rw [List.length_take, show min j x.length = j by have := hm.out; omega] at hown hmore
      have hN64 := (hbr4.block N6 (by omega)).trans hN6.out
      have c64 := one_cell hN64
      have hb4 := hide (hb0.trans (hbr4.mono hs0))
      have hs4 : w1.heap.size ≤ Y4.heap.size := Nat.le_trans hs1o hbr4.size
      have hs04 : w0.heap.size ≤ Y4.heap.size := hb4.out.size
      have hN64h := hide hN64
      replace hown := hide hown
      replace hmore := hide hmore
      replace hB5 := hide hB5
      replace hY4far := hide hY4far
      replace hN7e := hide hN7e
      clear hbr4 hOV2 hOTh hOVh hkY1 hkY2 hs12o hXs1 hN64
      go_wp2_with (first
       | (at_builtin
          refine wpList_append_own _ rfl (.tmp 38) (.tmp 40) _ rfl w1.heap.size 39 m0 _ 7 88 Try.underlying34 hm0.out hm1.out hm2.out hm3.out rfl (by omega) (.slice A50 j C50) _ _ rfl (hown.out.alloc _) ⟨Y4.heap.size, 0, none⟩ 1 1 [.int .i64 ins.op, .int .i64 ins.reg, .int .i64 ins.ty, .int .i64 ins.num, .int .i64 ins.flags, .slice Aa na Ca, .slice At nt Ct] rfl rfl ?c1 ?c2 ?c3 ?c4 ?c5 ?_
          case c1 => exact World.news_of_block (cs := #[.int .i64 ins.op, .int .i64 ins.reg, .int .i64 ins.ty, .int .i64 ins.num, .int .i64 ins.flags, .slice Aa na Ca, .slice At nt Ct]) (t := 39) (fr := (0, 0)) (heap_alloc_new Y4 _)
          case c2 => simp [Value.oneCell']
          case c3 => unfold maxLen; omega
          case c4 => omega
          case c5 => simp; omega
          intro v6 w6 hown6 hg6 _
          have hC6 := hide (hmore.out ins (.slice Aa na Ca) (.slice At nt Ct) w6 v6 hV4.out hT4.out hVlo.out hTlo.out hiok.out hown6 hg6)
          have hb6 : Below w0.heap.size w0 w6 := (hb4.out.alloc hs04 _).grown hg6 (by simp; omega) (fun k hk => by have := (row_lt hown.out hk).1; omega)
          have hN66 := hide ((But.grown hown.out hg6 N6 _ _ _ hN64h.out (by decide)).trans hN64h.out)
          have hs6 : Y4.heap.size ≤ w6.heap.size := by have := hg6.size; simp at this; omega
          obtain ⟨A66, C66, hv6⟩ := row_form hown6
          subst hv6
          have c66 := one_cell hN66.out
          have f66 := one_free (j := 0) hN66.out
          clear hown6 hg6))
      go_roundw
      case rel => exact ⟨j + 1, _, by omega, by go_num, hide (set_one hN66.out), hide (by rw [List.take_add_one, hins.out]; exact hC6.out.kept fun k hk _ => Below.heap_setCell _ _ _ _ (by show k ≠ N6; omega)), hb6.setCell (p := ⟨N6, 0, none⟩) h06 _, hide (by simp [World.setCell]; omega)⟩
      case measure => simp [intOf]; omega
    ·obtain rfl : j = m := by omega
     rw [List.take_of_length_le (by have := hm.out; omega)] at hOC
     obtain ⟨A50, C50, hu50⟩ := hOC.out.form
     rw [← hm.out] at hu50
     subst hu50
     have hNw := (hb0.block N3 hN0.out).trans hNr.out
     have hOIw := hide (hOI.out.kept (w' := wr) fun k _ hk => hb0.block k hk)
     obtain ⟨xs, hown, hmore⟩ := hOK.out.more (w1 := wr) fun k _ hk => hb0.block k hk
     rw [List.length_take, show min k f.blocks.length = k by have := hn.out; omega] at hown hmore
     obtain ⟨Au, Cu, hu⟩ := row_form hown
     subst hu
     have t3 := (box4 hNw).2.2.2
     have c64 := one_cell hN6.out
     have hUw : V.heap.size ≤ wr.heap.size := Nat.le_trans hUr.out hs0
     have hNwh := hide hNw
     have hw01 : Hid (w0.heap.size ≤ w1.heap.size) := hide (by omega)
     replace hown := hide hown
     replace hmore := hide hmore
     clear hNw
     go_wp2_with (first
      | (at_builtin
         refine wpList_append_own _ rfl (.tmp 45) (.tmp 47) _ rfl V.heap.size 36 p0 _ 1 24 Try.underlying30 hp0.out hp1.out hp2.out hp3.out rfl (by omega) (.slice Au k Cu) _ _ rfl (hown.out.alloc _) ⟨wr.heap.size, 0, none⟩ 1 1 [.slice A50 j C50] rfl rfl ?c1 ?c2 ?c3 ?c4 ?c5 ?_
         case c1 => exact World.news_of_block (cs := #[.slice A50 j C50]) (t := 36) (fr := (0, 0)) (heap_alloc_new wr _)
         case c2 => simp [Value.oneCell']
         case c3 => unfold maxLen; omega
         case c4 => omega
         case c5 => simp; omega
         intro v6 w6 hown6 hg6 _
         have hK6 := hide (hmore.out x (.slice A50 j C50) w1.heap.size w6 v6 hOC.out (Nat.le_trans hUr.out hw01.out) hw01.out hown6 hg6)
         have hbut := But.grown hown.out hg6
         have hI6 : Hid (OwnI w6 U.heap.size (.slice Av np Cv) f.params) := hide ⟨hbut.row (by decide) hOIw.out.row, hOIw.out.ok⟩
         have hN63 := hbut N3 _ _ _ hNwh.out (by decide)
         have hN63' := hide (hN63.trans hNwh.out)
         have hb6 : Below N3 U w6 := (hbr.alloc (by omega) _).grown hg6 (by simp; omega) (fun i hi => by have := (row_lt hown.out hi).1; omega)
         have hs6 : wr.heap.size ≤ w6.heap.size := by have := hg6.size; simp at this; omega
         obtain ⟨A6, C6, hv6⟩ := row_form hown6
         subst hv6
         have t6 := (box4 hN63'.out).2.2.2
         have f6 := one_free (j := 3) hN63'.out
         clear hown6 hg6 hbut hN63))
     have hfar : ∀ i, U.heap.size ≤ i → i ≠ N3 := fun i hi => by omega
     go_roundw
     case rel =>
      refine ⟨k + 1, _, by omega, by go_num, hide (by simpa using set_heap (j := 3) (v := .slice A6 (k + 1) C6) hN63'.out), hide (hI6.out.kept fun i hi _ => Below.heap_setCell _ _ _ _ (hfar i hi)), hide ?_, hb6.setCell (p := ⟨N3, 3, none⟩) (Nat.le_refl _) _, hide (by simp [World.setCell]; omega)⟩
      rw [List.take_add_one, hx.out]
      exact hK6.out.kept fun i hi _ => Below.heap_setCell _ _ _ _ (hfar i (by omega))
     case measure => simp [intOf]; omega
  ·obtain rfl : k = n := by omega
   rw [List.take_of_length_le (by have := hn.out; omega)] at hOK
   obtain ⟨Au, Cu, hu⟩ := hOK.out.form
   rw [← hn.out] at hu
   subst hu
   obtain ⟨r0, r1, r2, r3⟩ := box4 hNr.out
   have hRw := hide ((hbel.block (w.heap.size + 1) hN3w).trans hRU.out)
   obtain ⟨s0, s1, s2, s3⟩ := box4 hRw.out
   have g0 := one_free (j := 0) hRw.out
   have g1 := one_free (j := 1) hRw.out
   have g2 := one_free (j := 2) hRw.out
   have g3 := one_free (j := 3) hRw.out
   have hsU := hwU.out.size
   have hfar : ∀ i, U.heap.size ≤ i → i ≠ w.heap.size + 1 := fun i hi => by have := hUr.out; omega
   have hbel2 := hide hbel
   go_wp2
   have hK9 : ∀ (v0 v1 v2 v3 : Value) (i : Nat), U.heap.size ≤ i → ((((wr.setCell ⟨w.heap.size + 1, 0, none⟩ v0).setCell ⟨w.heap.size + 1, 1, none⟩ v1).setCell ⟨w.heap.size + 1, 2, none⟩ v2).setCell ⟨w.heap.size + 1, 3, none⟩ v3).heap[i]? = wr.heap[i]? := fun v0 v1 v2 v3 i hi => by
    rw [Below.heap_setCell _ _ _ _ (hfar i hi), Below.heap_setCell _ _ _ _ (hfar i hi), Below.heap_setCell _ _ _ _ (hfar i hi), Below.heap_setCell _ _ _ _ (hfar i hi)]
   refine bodyPost_ret (v := f.v (.slice Av np Cv) (.slice Au k Cu)) (by simp [results, Try.results34, go_sem, s0, s1, s2, s3, g0, g1, g2, g3]) rfl ⟨_, _, V.heap.size, rfl, (hOI.out.kept fun i hi _ => hK9 _ _ _ _ i hi).mono hsU, fun k hk => hPlo.out k hk, hOK.out.kept fun i hi _ => hK9 _ _ _ _ i (by omega), by omega, ?_⟩
   exact ((((hwU.out.trans (hbel2.out.mono (by omega))).setCell (p := ⟨w.heap.size + 1, 0, none⟩) (Nat.le_succ _) _).setCell (p := ⟨w.heap.size + 1, 1, none⟩) (Nat.le_succ _) _).setCell (p := ⟨w.heap.size + 1, 2, none⟩) (Nat.le_succ _) _).setCell (p := ⟨w.heap.size + 1, 3, none⟩) (Nat.le_succ _) _
end Go.Proofs.Ytamjcafjdioidaa
