/- Texts of the chain, without what is not wanted: Cr. No condition but sizes. -/
import Derived.WalkKit
import Derived.Deep.Slices
import Derived.Deep.Draws
import Derived.ChangeSame
import Derived.ChangeOld
import Derived.OwnWalk
import Derived.Laws.OwnMore
import Derived.Deep.AppendLies
import Derived.Test.YtamjcafjdioidaaRows
import Derived.ProofKit
import Derived.OpenShut
import Derived.JoinedCond
import Derived.WalkSpells
import Derived.WalkLawsBesides
import Derived.Deep.RegionHeld3
import Derived.Deep.LoopGhost
import Derived.Deep.QuietTactic
import Derived.BigQuiet
import Derived.Deep.DeepCutAuto
import Derived.Deep.CutBlock
import Derived.Test.YtamjcafjdioidaaUm01
import Derived.Test.YtamjcafjdioidaaUm02
import Derived.Test.YtamjcafjdioidaaUm03
import Derived.Test.YtamjcafjdioidaaUm05
import Derived.Test.YtamjcafjdioidaaUm06
namespace Go.Proofs.Ytamjcafjdioidaa
open Go.RowKit
set_option linter.unusedSimpArgs false
set_option linter.unusedVariables false
def CopyTree (f : Fun) (w : World) (e : Ending) (w' : World) : Prop := ∃ c d L, e = .returned (f.v c d) ∧ OwnI w' w.heap.size c f.params ∧ (∀ k, c.ownBlock = some k → k < L) ∧ OwnK2 w' L d f.blocks ∧ w.heap.size ≤ L ∧ Below w.heap.size w w'
set_option maxRecDepth 100000 in
set_option maxHeartbeats 12000000 in
theorem rcopytree_any (f : Fun) (c1 d1 : Value) (w : World) (B : Nat) (hB : B ≤ w.heap.size) (hf : RFun.rep w B [.string f.name, c1, .int .i64 f.ret, d1] f) (hs : Small f) :
  Calls Try.prog 13 #[f.v c1 d1] w (CopyTree f w) := by
 obtain ⟨hp, hb⟩ := fun_open (RFun.later hf (Below.refl _ _) hB)
 obtain ⟨A0, k0, hc1, -, -⟩ := Rp.slice1_open hp
 cases hc1
 obtain ⟨-, hpn, hpo, hps⟩ := ints_src hp
 obtain ⟨A1, k1, rfl, hl1, ga⟩ := blks_at hb
 clear hf hp hb
 obtain ⟨np, hnp⟩ : ∃ np, Hid (np = f.params.length) := ⟨_, hide rfl⟩
 obtain ⟨n, hn⟩ : ∃ n, Hid (n = f.blocks.length) := ⟨_, hide rfl⟩
 have hnp8 := hs.params
 have hn8 := hs.blocks
 have hcode := hide hs.code
 rw [← hnp.out] at hpn hnp8 ⊢
 rw [← hn.out] at hl1 hn8 ⊢
 obtain ⟨W, hW, hwW, hWs, hx, -⟩ := boxes2 w #[.string f.name, .slice A0 np k0, .int .i64 f.ret, .slice A1 n k1] #[.string ⟨#[]⟩, .slice none 0 0, .int .i64 0, .slice none 0 0] 32 32
 have hR : W.heap[w.heap.size + 1]? = some (.cells #[.string ⟨#[]⟩, .slice none 0 0, .int .i64 0, .slice none 0 0] 32 (0, 0)) := by
  rw [← hW]
  have := box_top (w.alloc (.cells #[.string f.name, .slice A0 np k0, .int .i64 f.ret, .slice A1 n k1] 32)) (.cells #[.string ⟨#[]⟩, .slice none 0 0, .int .i64 0, .slice none 0 0] 32)
  simpa using this
 have x0 := hx 0 _ rfl
 have x1 := hx 1 _ rfl
 have x2 := hx 2 _ rfl
 have x3 := hx 3 _ rfl
 clear hx
 have hws : w.heap.size + 1 < W.heap.size := by omega
 replace hWs := hide hWs
 replace hW := hide hW
 replace hR := hide hR
 obtain ⟨i0, hi0, hz0, hz1, hz2⟩ := cinfo_parts cinfo_int
 obtain ⟨j0, hj0, hj1, hj2, hj3⟩ := cinfo_parts cinfo_Value
 obtain ⟨m0, hm0, hm1, hm2, hm3⟩ := cinfo_parts cinfo_Instr
 obtain ⟨p0, hp0, hp1, hp2, hp3⟩ := cinfo_parts cinfo_Block
 replace hi0 := hide hi0
 replace hz0 := hide hz0
 replace hz1 := hide hz1
 replace hz2 := hide hz2
 replace hj0 := hide hj0
 replace hj1 := hide hj1
 replace hj2 := hide hj2
 replace hj3 := hide hj3
 replace hm0 := hide hm0
 replace hm1 := hide hm1
 replace hm2 := hide hm2
 replace hm3 := hide hm3
 replace hp0 := hide hp0
 replace hp1 := hide hp1
 replace hp2 := hide hp2
 replace hp3 := hide hp3
 replace ga := hide ga
 replace hpn := hide hpn
 replace hpo := hide hpo
 replace hps := hide hps
 replace hs := hide hs
 have hself := Below.refl W.heap.size W
 go_enter Try.func13, Try.ntmps13
 go_upto_region 1 with (fail)
 rw [hW.out]
 clear hW
 go_upto_region 2 with (fail)
 have hN3 := box_top W (.cells #[.string f.name, .slice none 0 0, .int .i64 f.ret, .slice none 0 0] 32)
 have hWU := hself.alloc (Nat.le_refl _) (.cells #[.string f.name, .slice none 0 0, .int .i64 f.ret, .slice none 0 0] 32)
 obtain ⟨U, hU⟩ : ∃ U, U = W.alloc (.cells #[.string f.name, .slice none 0 0, .int .i64 f.ret, .slice none 0 0] 32) := ⟨_, rfl⟩
 have hUs : U.heap.size = W.heap.size + 1 := by rw [hU]; simp
 rw [← hU] at hN3 hWU ⊢
 clear hU
 obtain ⟨N3, hNe⟩ : ∃ N3, N3 = W.heap.size := ⟨_, rfl⟩
 have hN3w : w.heap.size + 1 < N3 := by rw [hNe]; exact hws
 have hNU : N3 < U.heap.size := by omega
 have y0 : ∀ w', Below N3 U w' → w'.cell? ⟨w.heap.size, 0, none⟩ = some (.string f.name) := fun w' h => x0 w' (by rw [← hNe]; exact (hNe ▸ hWU).trans h)
 have y1 : ∀ w', Below N3 U w' → w'.cell? ⟨w.heap.size, 1, none⟩ = some (.slice A0 np k0) := fun w' h => x1 w' (by rw [← hNe]; exact (hNe ▸ hWU).trans h)
 have y2 : ∀ w', Below N3 U w' → w'.cell? ⟨w.heap.size, 2, none⟩ = some (.int .i64 f.ret) := fun w' h => x2 w' (by rw [← hNe]; exact (hNe ▸ hWU).trans h)
 have y3 : ∀ w', Below N3 U w' → w'.cell? ⟨w.heap.size, 3, none⟩ = some (.slice A1 n k1) := fun w' h => x3 w' (by rw [← hNe]; exact (hNe ▸ hWU).trans h)
 have hwU : Hid (Below w.heap.size w U) := hide (hwW.trans (hWU.mono (by omega)))
 have hRU : Hid (U.heap[w.heap.size + 1]? = some (.cells #[.string ⟨#[]⟩, .slice none 0 0, .int .i64 0, .slice none 0 0] 32 (0, 0))) := hide ((hWU.block _ hws).trans hR.out)
 rw [← hNe] at hN3 ⊢
 clear x0 x1 x2 x3 hself hWU hwW hR hUs hNe hws hWs
 have hselfU := Below.refl N3 U
 obtain ⟨r0, r1, r2, r3⟩ := box4 hN3
 have fz1 := one_free (j := 1) hN3
 have hown0 : Hid (U.ownsRow U.heap.size 3 1 (.slice none 0 0) 0 []) := hide ⟨rfl, .inl ⟨rfl, rfl⟩⟩
 have hsrc := hide (hps.out U hwU.out)
 go_upto_region 3 with (at_builtin; refine wpList_append_any _ rfl (.tmp 16) (.tmp 18) _ rfl U.heap.size 3 i0 _ 1 8 Try.underlying29 hi0.out hz0.out hz1.out hz2.out rfl (by omega) (.slice none 0 0) 0 [] rfl hown0.out A0 np k0 (f.params.map fun z => Value.int .i64 z) rfl (by rw [List.length_map, ← hnp.out]; omega) (fun e => by have := hpn.out e; omega) hsrc.out (ints_one _) (by unfold maxLen; omega) (by omega) (Nat.le_refl _) ?_; intro v1 Y hownY hgY; rw [Nat.zero_add] at hownY; obtain ⟨Av, Cv, hv1⟩ := row_form hownY; subst hv1; have hbY : Below U.heap.size U Y := (Below.refl _ _).grown hgY (Nat.le_refl _) (fun k hk => by cases hk); have hNY := hide ((hbY.block N3 hNU).trans hN3); have t1 := (box4 hNY.out).2.1; have ft1 := one_free (j := 1) hNY.out; have hbYN : Below N3 U Y := hbY.mono (by omega); replace hownY := hide hownY; clear hgY)
 have hNV := set_heap (j := 1) (v := (Value.slice Av np Cv)) hNY.out
 have hOI : Hid (OwnI (Y.setCell ⟨N3, 1, none⟩ (Value.slice Av np Cv)) U.heap.size (Value.slice Av np Cv) f.params) := hide ⟨row_kept (by rw [← hnp.out]; exact hownY.out) fun k hk => Below.heap_setCell _ _ _ _ (by have := (row_lt hownY.out hk).1; show k ≠ N3; omega), hpo.out⟩
 have hbV := hbYN.setCell (p := ⟨N3, 1, none⟩) (Nat.le_refl _) (Value.slice Av np Cv)
 obtain ⟨V, hV⟩ : ∃ V, V = Y.setCell ⟨N3, 1, none⟩ (Value.slice Av np Cv) := ⟨_, rfl⟩
 rw [← hV] at hNV hOI hbV ⊢
 have hPlo : Hid (∀ k, Value.ownBlock (.slice Av np Cv) = some k → k < V.heap.size) := hide (fun k hk => (row_lt hOI.out.row hk).2.1)
 clear hV hNY t1 ft1 hbYN hownY hbY r0 r1 r2 r3 fz1 hown0 hsrc hselfU hN3
 have hNV' : Hid (V.heap[N3]? = some (.cells #[.string f.name, (Value.slice Av np Cv), .int .i64 f.ret, .slice none 0 0] 32 (0, 0))) := hide (by simpa using hNV)
 clear hNV
 go_wp2_with fail
 go_loopw [4] (fun u4 wr => ∃ (k : Nat) (u : Value), k ≤ n ∧ u4 = .int .i64 k ∧ Hid (wr.heap[N3]? = some (.cells #[.string f.name, (Value.slice Av np Cv), .int .i64 f.ret, u] 32 (0, 0))) ∧ Hid (OwnI wr U.heap.size (Value.slice Av np Cv) f.params) ∧ Hid (OwnK2 wr V.heap.size u (f.blocks.take k)) ∧ Below N3 U wr ∧ Hid (V.heap.size ≤ wr.heap.size)) (fun u4 _ => n - (intOf u4).toNat)
 case atStart => exact ⟨0, _, Nat.zero_le _, rfl, hNV', hOI, hide OwnK2.nil_, hbV, hide (Nat.le_refl _)⟩
 case round =>
  have hUV : U.heap.size ≤ V.heap.size := hbV.size
  clear hNV' hOI hbV
  obtain ⟨k, u, hk, rfl, hNr, hOI, hOK, hbel, hUr⟩ := hrel
  by_cases hlt : k < n
  ·obtain ⟨q1, o1, rfl, he1⟩ := ga.out (by rw [← hn.out]; omega)
   obtain ⟨x, hx⟩ := get_ex (l := f.blocks) (k := k) (by rw [← hn.out]; exact hlt)
   obtain ⟨A3, k3, c3, hl3, gx⟩ := he1 k x hx.out
   have d3 : ∀ w', Below N3 U w' → w'.cell? ⟨q1, o1 + k, none⟩ = some (.slice A3 x.length k3) := fun w' h => c3 w' (hwU.out.trans (h.mono (by omega)))
   obtain ⟨m, hm⟩ : ∃ m, Hid (m = x.length) := ⟨_, hide rfl⟩
   have hxm := hcode.out x (List.mem_of_getElem? hx.out)
   rw [← hm.out] at d3 hl3 hxm
   have hm8 := hxm.1
   have hcx := hide hxm.2
   replace gx := hide gx
   clear c3 he1 hxm
   have hself0 := Below.refl wr.heap.size wr
   obtain ⟨w0, hw0⟩ : ∃ w0, w0 = wr := ⟨_, rfl⟩
   rw [← hw0] at hNr hOI hOK hbel hUr hself0 ⊢
   clear hw0
   have hN0 : Hid (N3 < w0.heap.size) := hide (by have := hUr.out; omega)
   go_wp2_with fail
   go_loopw [5, 6] (fun u5 u6 wr => ∃ j : Nat, j ≤ m ∧ u6 = .int .i64 j ∧ Hid (OwnC2 wr w0.heap.size u5 (x.take j)) ∧ Below w0.heap.size w0 wr) (fun _ u6 _ => m - (intOf u6).toNat)
   case atStart => exact ⟨0, Nat.zero_le _, rfl, hide OwnC2.nil_, hself0⟩
   case round =>
    clear hself0
    obtain ⟨j, hj, rfl, hOC, hb0⟩ := hrel
    have hbr : Below N3 U wr := hbel.trans (hb0.mono (Nat.le_of_lt hN0.out))
    have hs0 := hb0.size
    by_cases hlt2 : j < m
    ·obtain ⟨q2, o2, rfl, hi1⟩ := gx.out (by rw [← hm.out]; omega)
     obtain ⟨ins, hins⟩ := get_ex (l := x) (k := j) (by rw [← hm.out]; exact hlt2)
     obtain ⟨ca, da, hra, hca⟩ := hi1 j ins hins.out
     obtain ⟨ra, rt⟩ := ins_open hra
     have hiok : Hid (InsOk ins) := hide (by obtain ⟨_, _, _, _, _, h5⟩ := hra; exact h5)
     obtain ⟨A5, k5, hca5, -, -⟩ := Rp.slice_open ra
     obtain ⟨A6, k6, hda6, -, -⟩ := Rp.slice1_open rt
     cases hca5
     cases hda6
     obtain ⟨-, han, hao, has⟩ := opds_src ra
     obtain ⟨-, htn, hto, hts⟩ := ints_src rt
     obtain ⟨na, hna⟩ : ∃ na, Hid (na = ins.args.length) := ⟨_, hide rfl⟩
     obtain ⟨nt, hnt⟩ : ∃ nt, Hid (nt = ins.to.length) := ⟨_, hide rfl⟩
     have hszi := hcx.out ins (List.mem_of_getElem? hins.out)
     rw [← hna.out] at han hszi hca
     rw [← hnt.out] at htn hszi hca
     have hsa := hszi.1
     have hst := hszi.2
     obtain ⟨e0, e1, e2, e3, e4, e5, e6⟩ := hca.seven
     have a0 : ∀ w', Below N3 U w' → w'.cell? ⟨q2, o2 + j * 7, none⟩ = some (.int .i64 ins.op) := fun w' h => e0 w' (hwU.out.trans (h.mono (by omega)))
     have a1 : ∀ w', Below N3 U w' → w'.cell? ⟨q2, o2 + j * 7 + 1, none⟩ = some (.int .i64 ins.reg) := fun w' h => e1 w' (hwU.out.trans (h.mono (by omega)))
     have a2 : ∀ w', Below N3 U w' → w'.cell? ⟨q2, o2 + j * 7 + 2, none⟩ = some (.int .i64 ins.ty) := fun w' h => e2 w' (hwU.out.trans (h.mono (by omega)))
     have a3 : ∀ w', Below N3 U w' → w'.cell? ⟨q2, o2 + j * 7 + 3, none⟩ = some (.int .i64 ins.num) := fun w' h => e3 w' (hwU.out.trans (h.mono (by omega)))
     have a4 : ∀ w', Below N3 U w' → w'.cell? ⟨q2, o2 + j * 7 + 4, none⟩ = some (.int .i64 ins.flags) := fun w' h => e4 w' (hwU.out.trans (h.mono (by omega)))
     have a5 : ∀ w', Below N3 U w' → w'.cell? ⟨q2, o2 + j * 7 + 5, none⟩ = some (.slice A5 na k5) := fun w' h => e5 w' (hwU.out.trans (h.mono (by omega)))
     have a6 : ∀ w', Below N3 U w' → w'.cell? ⟨q2, o2 + j * 7 + 6, none⟩ = some (.slice A6 nt k6) := fun w' h => e6 w' (hwU.out.trans (h.mono (by omega)))
     clear e0 e1 e2 e3 e4 e5 e6
     obtain ⟨A50, C50, hu50⟩ := (show ∃ A C, u5 = .slice A j C by
      have := hOC.out.form
      rw [List.length_take, show min j x.length = j by have := hm.out; omega] at this
      exact this)
     subst hu50
     go_upto_region 11 with (fail)
     have hB7 := box_top wr (.cells #[.int .i64 ins.op, .int .i64 ins.reg, .int .i64 ins.ty, .int .i64 ins.num, .int .i64 ins.flags, .slice A5 na k5, .slice A6 nt k6] 39)
     have hbX := (Below.refl wr.heap.size wr).alloc (Nat.le_refl _) (.cells #[.int .i64 ins.op, .int .i64 ins.reg, .int .i64 ins.ty, .int .i64 ins.num, .int .i64 ins.flags, .slice A5 na k5, .slice A6 nt k6] 39)
     obtain ⟨X1, hX1e⟩ : ∃ X1, X1 = wr.alloc (.cells #[.int .i64 ins.op, .int .i64 ins.reg, .int .i64 ins.ty, .int .i64 ins.num, .int .i64 ins.flags, .slice A5 na k5, .slice A6 nt k6] 39) := ⟨_, rfl⟩
     have hX1s : X1.heap.size = wr.heap.size + 1 := by rw [hX1e]; simp
     rw [← hX1e] at hB7 hbX ⊢
     obtain ⟨N7, hN7⟩ : ∃ N7, N7 = wr.heap.size := ⟨_, rfl⟩
     have hN7X : N7 < X1.heap.size := by omega
     have h7a : wr.heap.size ≤ N7 := by omega
     have h7b : N7 ≤ wr.heap.size := by omega
     have hXa : wr.heap.size + 1 ≤ X1.heap.size := by omega
     have hwX : Hid (Below w.heap.size w X1) := hide (hwU.out.trans ((hbr.trans (hbX.mono (by have := hN0.out; omega))).mono (by omega)))
     have hbXr := hide hbX
     rw [← hN7] at hB7 ⊢
     have hsX := hwX.out.size
     replace hX1s := hide hX1s
     replace hN7 := hide hN7
     clear hX1e a0 a1 a2 a3 a4 a5 a6 hi1 hca hbX
     have hselfX := Below.refl X1.heap.size X1
     have b0 : ∀ w', Below X1.heap.size X1 w' → w'.cell? ⟨N7, 5, none⟩ = some (.slice A5 na k5) := fun w' h => (h.cell (p := ⟨N7, 5, none⟩) hN7X).trans (box7 hB7).2.2.2.2.2.1
     have b1 : ∀ w', Below X1.heap.size X1 w' → w'.cell? ⟨N7, 6, none⟩ = some (.slice A6 nt k6) := fun w' h => (h.cell (p := ⟨N7, 6, none⟩) hN7X).trans (box7 hB7).2.2.2.2.2.2
     have hownA : Hid (X1.ownsRow X1.heap.size 42 3 (.slice none 0 0) 0 []) := hide ⟨rfl, .inl ⟨rfl, rfl⟩⟩
     have hsA := hide (has X1 hwX.out)
     replace han := hide han
     replace htn := hide htn
     replace hao := hide hao
     replace hto := hide hto
     replace hts := hide hts
     clear has
     go_upto_region 14 with (at_builtin; refine wpList_append_any _ rfl (.tmp 48) (.tmp 50) _ rfl X1.heap.size 42 j0 _ 3 24 Try.underlying37 hj0.out hj1.out hj2.out hj3.out rfl (by omega) (.slice none 0 0) 0 [] rfl hownA.out A5 na k5 (ins.args.flatMap oc) rfl (by rw [oc_len, ← hna.out]) (fun e => by have := han.out e; omega) hsA.out (oc_one _) (by unfold maxLen; omega) (by omega) (Nat.le_refl _) ?_; intro v8 Y1 hownY hgY; rw [Nat.zero_add] at hownY; obtain ⟨Aa, Ca, hv8⟩ := row_form hownY; subst hv8; have hbY1 : Below X1.heap.size X1 Y1 := (Below.refl _ _).grown hgY (Nat.le_refl _) (fun k hk => by cases hk); replace hownY := hide hownY; clear hgY)
     have hOV : Hid (OwnV Y1 X1.heap.size (.slice Aa na Ca) ins.args) := hide ⟨by rw [← hna.out]; exact hownY.out, hao.out⟩
     have hsY1 := hbY1.size
     have hownT : Hid (Y1.ownsRow Y1.heap.size 3 1 (.slice none 0 0) 0 []) := hide ⟨rfl, .inl ⟨rfl, rfl⟩⟩
     have hsT := hide (hts.out Y1 (hwX.out.trans (hbY1.mono (by omega))))
     clear hownY hownA hsA
     go_upto_region 15 with (at_builtin; refine wpList_append_any _ rfl (.tmp 52) (.tmp 54) _ rfl Y1.heap.size 3 i0 _ 1 8 Try.underlying29 hi0.out hz0.out hz1.out hz2.out rfl (by omega) (.slice none 0 0) 0 [] rfl hownT.out A6 nt k6 (ins.to.map fun z => Value.int .i64 z) rfl (by rw [List.length_map, ← hnt.out]; omega) (fun e => by have := htn.out e; omega) hsT.out (ints_one _) (by unfold maxLen; omega) (by omega) (Nat.le_refl _) ?_; intro v9 Y2 hownY hgY; rw [Nat.zero_add] at hownY; obtain ⟨At, Ct, hv9⟩ := row_form hownY; subst hv9; have hbY2 : Below Y1.heap.size Y1 Y2 := (Below.refl _ _).grown hgY (Nat.le_refl _) (fun k hk => by cases hk); replace hownY := hide hownY; clear hgY)
     have hOT : Hid (OwnI Y2 Y1.heap.size (.slice At nt Ct) ins.to) := hide ⟨by rw [← hnt.out]; exact hownY.out, hto.out⟩
     have hOV2 : Hid (OwnV Y2 X1.heap.size (.slice Aa na Ca) ins.args) := hide (hOV.out.kept fun k _ hk => hbY2.block k hk)
     have hbX2 := hbY1.trans (hbY2.mono hsY1)
     have hsY2 := hbX2.size
     have hB2 := (hbX2.block N7 hN7X).trans hB7
     have t5 := (box7 hB2).2.2.2.2.2.1
     have t6 := (box7 hB2).2.2.2.2.2.2
     have f5 := one_free (j := 5) hB2
     have f6 := one_free (j := 6) hB2
     have hB4 := set_heap (j := 6) (v := .slice At nt Ct) (set_heap (j := 5) (v := .slice Aa na Ca) hB2)
     have hbX3 := hide hbX2
     clear hownY hownT hsT b0 b1 hselfX hbY1 hbY2 hOV hB7 hbX2
     go_upto_region 17 with (fail)
     obtain ⟨Y4, hY4⟩ : ∃ Y4, Y4 = (Y2.setCell ⟨N7, 5, none⟩ (.slice Aa na Ca)).setCell ⟨N7, 6, none⟩ (.slice At nt Ct) := ⟨_, rfl⟩
     have hY4far : ∀ k, k ≠ N7 → Y4.heap[k]? = Y2.heap[k]? := fun k hk => by rw [hY4, Below.heap_setCell _ _ _ _ hk, Below.heap_setCell _ _ _ _ hk]
     have hY4s : Y4.heap.size = Y2.heap.size := by rw [hY4]; simp [World.setCell]
     have hbr4 : Below wr.heap.size wr Y4 := by
      rw [hY4]
      exact ((hbXr.out.trans (hbX3.out.mono (by omega))).setCell (p := ⟨N7, 5, none⟩) (by show wr.heap.size ≤ N7; omega) _).setCell (p := ⟨N7, 6, none⟩) (by show wr.heap.size ≤ N7; omega) _
     rw [← hY4] at hB4 ⊢
     clear hY4 t5 t6 f5 f6 hB2
     have hB5 : Y4.heap[N7]? = some (.cells #[.int .i64 ins.op, .int .i64 ins.reg, .int .i64 ins.ty, .int .i64 ins.num, .int .i64 ins.flags, .slice Aa na Ca, .slice At nt Ct] 39 (0, 0)) := by simpa using hB4
     obtain ⟨z0, z1, z2, z3, z4, z5, z6⟩ := box7 hB5
     have hV4 : Hid (OwnV Y4 w0.heap.size (.slice Aa na Ca) ins.args) := hide ((hOV2.out.kept fun k h1 _ => hY4far k (by omega)).mono (by omega))
     have hT4 : Hid (OwnI Y4 w0.heap.size (.slice At nt Ct) ins.to) := hide ((hOT.out.kept fun k h1 _ => hY4far k (by omega)).mono (by omega))
     obtain ⟨xs, hown, hmore⟩ := hOC.out.more (w1 := Y4) fun k _ hk => hbr4.block k hk
     have hVlo : Hid (∀ k, Value.ownBlock (.slice Aa na Ca) = some k → wr.heap.size ≤ k) := hide (fun k hk => by have := (row_lt hOV2.out.row hk).1; omega)
     have hTlo : Hid (∀ k, Value.ownBlock (.slice At nt Ct) = some k → wr.heap.size ≤ k) := hide (fun k hk => by have := (row_lt hOT.out.row hk).1; omega)
     rw [List.length_take, show min j x.length = j by have := hm.out; omega] at hown hmore
     have hb4 := hide (hb0.trans (hbr4.mono hs0))
     have hs4 : w0.heap.size ≤ Y4.heap.size := hb4.out.size
     replace hown := hide hown
     replace hmore := hide hmore
     replace hB5 := hide hB5
     replace hY4far := hide hY4far
     clear hB4 hbr4 hOV2 hOT hX1s hN7 hY4s hsX hsY1 hsY2 hN7X
     go_wp2_with (first
      | (at_builtin
         refine wpList_append_own _ rfl (.tmp 60) (.tmp 62) _ rfl w0.heap.size 39 m0 _ 7 88 Try.underlying34 hm0.out hm1.out hm2.out hm3.out rfl (by omega) (.slice A50 j C50) _ _ rfl (hown.out.alloc _) ⟨Y4.heap.size, 0, none⟩ 1 1 [.int .i64 ins.op, .int .i64 ins.reg, .int .i64 ins.ty, .int .i64 ins.num, .int .i64 ins.flags, .slice Aa na Ca, .slice At nt Ct] rfl rfl ?c1 ?c2 ?c3 ?c4 ?c5 ?_
         case c1 => exact World.news_of_block (cs := #[.int .i64 ins.op, .int .i64 ins.reg, .int .i64 ins.ty, .int .i64 ins.num, .int .i64 ins.flags, .slice Aa na Ca, .slice At nt Ct]) (t := 39) (fr := (0, 0)) (heap_alloc_new Y4 _)
         case c2 => simp [Value.oneCell']
         case c3 => unfold maxLen; omega
         case c4 => omega
         case c5 => simp; omega
         intro v6 w6 hown6 hg6 _
         have hC6 := hide (hmore.out ins (.slice Aa na Ca) (.slice At nt Ct) w6 v6 hV4.out hT4.out hVlo.out hTlo.out hiok.out hown6 hg6)
         have hb6 : Below w0.heap.size w0 w6 := (hb4.out.alloc hs4 _).grown hg6 (by simp; omega) (fun k hk => (row_lt hown.out hk).1)
         clear hown6 hg6))
     go_roundw
     case rel => exact ⟨j + 1, by omega, by go_num, by rw [List.take_add_one, hins.out]; exact hC6, hb6⟩
     case measure => simp [intOf]; omega
    ·obtain rfl : j = m := by omega
     rw [List.take_of_length_le (by have := hm.out; omega)] at hOC
     obtain ⟨A50, C50, hu50⟩ := (show ∃ A C, u5 = .slice A x.length C by
      exact hOC.out.form)
     rw [← hm.out] at hu50
     subst hu50
     have hNw := (hb0.block N3 hN0.out).trans hNr.out
     have hOIw := hide (hOI.out.kept (w' := wr) fun k _ hk => hb0.block k hk)
     obtain ⟨xs, hown, hmore⟩ := hOK.out.more (w1 := wr) fun k _ hk => hb0.block k hk
     rw [List.length_take, show min k f.blocks.length = k by have := hn.out; omega] at hown hmore
     obtain ⟨Au, Cu, hu⟩ := row_form hown
     subst hu
     have t3 := (box4 hNw).2.2.2
     have hUw : V.heap.size ≤ wr.heap.size := Nat.le_trans hUr.out hs0
     have hNwh := hide hNw
     replace hown := hide hown
     replace hmore := hide hmore
     clear hNw
     go_wp2_with (first
      | (at_builtin
         refine wpList_append_own _ rfl (.tmp 65) (.tmp 68) _ rfl V.heap.size 36 p0 _ 1 24 Try.underlying30 hp0.out hp1.out hp2.out hp3.out rfl (by omega) (.slice Au k Cu) _ _ rfl (hown.out.alloc _) ⟨wr.heap.size, 0, none⟩ 1 1 [.slice A50 j C50] rfl rfl ?c1 ?c2 ?c3 ?c4 ?c5 ?_
         case c1 => exact World.news_of_block (cs := #[.slice A50 j C50]) (t := 36) (fr := (0, 0)) (heap_alloc_new wr _)
         case c2 => simp [Value.oneCell']
         case c3 => unfold maxLen; omega
         case c4 => omega
         case c5 => simp; omega
         intro v6 w6 hown6 hg6 _
         have hK6 := hide (hmore.out x (.slice A50 j C50) w0.heap.size w6 v6 hOC.out hUr.out (Nat.le_refl _) hown6 hg6)
         have hbut := But.grown hown.out hg6
         have hI6 : Hid (OwnI w6 U.heap.size (.slice Av np Cv) f.params) := hide ⟨hbut.row (by decide) hOIw.out.row, hOIw.out.ok⟩
         have hN6 := hbut N3 _ _ _ hNwh.out (by decide)
         have hN6' := hide (hN6.trans hNwh.out)
         have hb6 : Below N3 U w6 := (hbr.alloc (by omega) _).grown hg6 (by simp; omega) (fun i hi => by have := (row_lt hown.out hi).1; omega)
         have hs6 : wr.heap.size ≤ w6.heap.size := by have := hg6.size; simp at this; omega
         obtain ⟨A6, C6, hv6⟩ := row_form hown6
         subst hv6
         have t6 := (box4 hN6'.out).2.2.2
         have f6 := one_free (j := 3) hN6'.out
         clear hown6 hg6 hbut hN6))
     have hfar : ∀ i, U.heap.size ≤ i → i ≠ N3 := fun i hi => by omega
     go_roundw
     case rel =>
      refine ⟨k + 1, _, by omega, by go_num, hide (by simpa using set_heap (j := 3) (v := .slice A6 (k + 1) C6) hN6'.out), hide (hI6.out.kept fun i hi _ => Below.heap_setCell _ _ _ _ (hfar i hi)), hide ?_, hb6.setCell (p := ⟨N3, 3, none⟩) (Nat.le_refl _) _, hide (by simp [World.setCell]; omega)⟩
      rw [List.take_add_one, hx.out]
      exact hK6.out.kept fun i hi _ => Below.heap_setCell _ _ _ _ (hfar i (by omega))
     case measure => simp [intOf]; omega
  ·obtain rfl : k = n := by omega
   rw [List.take_of_length_le (by have := hn.out; omega)] at hOK
   obtain ⟨Au, Cu, hu⟩ := (show ∃ A C, u = .slice A f.blocks.length C by
    exact hOK.out.form)
   rw [← hn.out] at hu
   subst hu
   obtain ⟨r0, r1, r2, r3⟩ := box4 hNr.out
   have hRw := hide ((hbel.block (w.heap.size + 1) hN3w).trans hRU.out)
   obtain ⟨s0, s1, s2, s3⟩ := box4 hRw.out
   have g0 := one_free (j := 0) hRw.out
   have g1 := one_free (j := 1) hRw.out
   have g2 := one_free (j := 2) hRw.out
   have g3 := one_free (j := 3) hRw.out
   have hsU := hwU.out.size
   have hfar : ∀ i, U.heap.size ≤ i → i ≠ w.heap.size + 1 := fun i hi => by have := hUr.out; omega
   have hbel2 := hide hbel
   go_wp2
   have hK9 : ∀ (v0 v1 v2 v3 : Value) (i : Nat), U.heap.size ≤ i → ((((wr.setCell ⟨w.heap.size + 1, 0, none⟩ v0).setCell ⟨w.heap.size + 1, 1, none⟩ v1).setCell ⟨w.heap.size + 1, 2, none⟩ v2).setCell ⟨w.heap.size + 1, 3, none⟩ v3).heap[i]? = wr.heap[i]? := fun v0 v1 v2 v3 i hi => by
    rw [Below.heap_setCell _ _ _ _ (hfar i hi), Below.heap_setCell _ _ _ _ (hfar i hi), Below.heap_setCell _ _ _ _ (hfar i hi), Below.heap_setCell _ _ _ _ (hfar i hi)]
   refine bodyPost_ret (v := f.v (.slice Av np Cv) (.slice Au k Cu)) (by simp [results, Try.results13, go_sem, s0, s1, s2, s3, g0, g1, g2, g3]) rfl ⟨_, _, V.heap.size, rfl, (hOI.out.kept fun i hi _ => hK9 _ _ _ _ i hi).mono hsU, fun k hk => hPlo.out k hk, hOK.out.kept fun i hi _ => hK9 _ _ _ _ i (by omega), by omega, ?_⟩
   exact ((((hwU.out.trans (hbel2.out.mono (by omega))).setCell (p := ⟨w.heap.size + 1, 0, none⟩) (Nat.le_succ _) _).setCell (p := ⟨w.heap.size + 1, 1, none⟩) (Nat.le_succ _) _).setCell (p := ⟨w.heap.size + 1, 2, none⟩) (Nat.le_succ _) _).setCell (p := ⟨w.heap.size + 1, 3, none⟩) (Nat.le_succ _) _
end Go.Proofs.Ytamjcafjdioidaa
