/- Texts of the chain, without what is not wanted: TdJ. No condition but sizes. -/
import Derived.WalkKit
import Derived.Deep.Slices
import Derived.Deep.Draws
import Derived.ChangeSame
import Derived.ChangeOld
import Derived.OwnWalk
import Derived.Laws.OwnMore
import Derived.Deep.AppendLies
import Derived.Test.YtamjcafjdioidaaRows
import Derived.ProofKit
import Derived.OpenShut
import Derived.JoinedCond
import Derived.WalkSpells
import Derived.WalkLawsBesides
import Derived.Deep.RegionHeld3
import Derived.Deep.LoopGhost
import Derived.Deep.QuietTactic
import Derived.BigQuiet
import Derived.Deep.DeepCutAuto
import Derived.Deep.CutBlock
import Derived.StillTailTactics
import Derived.Deep.RegionLaw
import Derived.Lib.SliceRun
import Derived.Laws.IdiomCopy
import Derived.Deep.MidRow
import Derived.Lib.Overlaps
import Derived.Test.YtamjcafjdioidaaUz01
import Derived.Test.YtamjcafjdioidaaUz02
import Derived.Test.YtamjcafjdioidaaUz03
import Derived.Test.YtamjcafjdioidaaUz04
import Derived.Test.YtamjcafjdioidaaUz05
import Derived.Test.YtamjcafjdioidaaUz06
import Derived.Test.YtamjcafjdioidaaUz07
import Derived.Test.YtamjcafjdioidaaUz08
import Derived.Test.YtamjcafjdioidaaUz09
import Derived.Test.YtamjcafjdioidaaUz10
import Derived.Test.YtamjcafjdioidaaUz11
namespace Go.Proofs.Ytamjcafjdioidaa
open Go.RowKit
set_option linter.unusedSimpArgs false
set_option linter.unusedVariables false
def MovPost (V : World) (gc n C i : Nat) (xs : List Value) (p q : Int) (x : Ins) (ca ct : Value) (e : Ending) (w' : World) : Prop :=
 e = .returned (.tuple #[]) ∧ ∃ ca' ct', OwnV w' 0 ca' (movI p q x).args ∧ OwnI w' 0 ct' (movI p q x).to ∧ ca'.ownBlock = ca.ownBlock ∧ ct'.ownBlock = ct.ownBlock ∧
  w'.ownsRow 0 39 7 (.slice (some ⟨gc, 0, none⟩) n C) n ((xs.set (i * 7 + 5) ca').set (i * 7 + 6) ct') ∧
  Only (fun k => k = gc ∨ ca.ownBlock = some k ∨ ct.ownBlock = some k) V.heap.size V w'
structure MvSt (X U : World) (ga gt na nt Ca Ct : Nat) (q : Int) (z : Opd) (ai ti : List Value) (iI iV : Option Nat) : Prop where
 only : Only (fun k => k = gt ∨ k = ga) X.heap.size X U
 rt : U.ownsRow 0 3 1 (.slice (some ⟨gt, 0, none⟩) nt Ct) nt ti
 ra : U.ownsRow 0 42 3 (.slice (some ⟨ga, 0, none⟩) na Ca) na ai
 hI : ∀ k, iI = some k → X.heap.size ≤ k ∧ U.heap[k]? = some (.cells #[.int .i64 q] 3 (0, 0))
 hV : ∀ k, iV = some k → X.heap.size ≤ k ∧ U.heap[k]? = some (.cells #[.int .i64 z.kind, .int .i64 z.num, .int .u64 z.bits] 42 (0, 0))
section
variable {X U U' : World} {ga gt na nt Ca Ct : Nat} {q : Int} {z : Opd} {ai ti : List Value} {iI iV : Option Nat}
theorem MvSt.row_alloc {B : Nat} {T : TypeId} {s n : Nat} {v : Value} {ys : List Value} (h : U.ownsRow B T s v n ys) (o : Obj) : (U.alloc o).ownsRow B T s v n ys := row_kept h fun k hk => heap_alloc_old U o (row_lt h hk).2.1
theorem MvSt.allocI (h : MvSt X U ga gt na nt Ca Ct q z ai ti none iV) : MvSt X (U.alloc (.cells #[.int .i64 q] 3)) ga gt na nt Ca Ct q z ai ti (some U.heap.size) iV := by
 refine ⟨h.only.next (Nat.le_refl _) (Only.of_below ((Below.refl _ _).alloc (Nat.le_refl _) _)), row_alloc h.rt _, row_alloc h.ra _, fun k hk => ?_, fun k hk => ?_⟩
 ·cases hk
  exact ⟨h.only.size, heap_alloc_new U _⟩
 ·obtain ⟨h1, h2⟩ := h.hV k hk
  exact ⟨h1, (heap_alloc_old U _ (Array.getElem?_eq_some_iff.1 h2).1).trans h2⟩
theorem MvSt.allocV (h : MvSt X U ga gt na nt Ca Ct q z ai ti iI none) : MvSt X (U.alloc (.cells #[.int .i64 z.kind, .int .i64 z.num, .int .u64 z.bits] 42)) ga gt na nt Ca Ct q z ai ti iI (some U.heap.size) := by
 refine ⟨h.only.next (Nat.le_refl _) (Only.of_below ((Below.refl _ _).alloc (Nat.le_refl _) _)), row_alloc h.rt _, row_alloc h.ra _, fun k hk => ?_, fun k hk => ?_⟩
 ·obtain ⟨h1, h2⟩ := h.hI k hk
  exact ⟨h1, (heap_alloc_old U _ (Array.getElem?_eq_some_iff.1 h2).1).trans h2⟩
 ·cases hk
  exact ⟨h.only.size, heap_alloc_new U _⟩
theorem MvSt.insI {j : Nat} {e : Ending} {k : Nat} (h : MvSt X U ga gt na nt Ca Ct q z ai ti (some k) iV) (hX : gt < X.heap.size) (hne : ga ≠ gt) (hp : InsPost 3 1 gt nt Ct j 0 ti [.int .i64 q] U e U') : e = .returned (.slice (some ⟨gt, 0, none⟩) (nt + 1) Ct) ∧ MvSt X U' ga gt na (nt + 1) Ca Ct q z ai (ti.take (j * 1) ++ [.int .i64 q] ++ ti.drop (j * 1)) (some k) iV := by
 obtain ⟨h1, h2, h3⟩ := hp
 have hUs := h.only.size
 refine ⟨h1, h.only.next (Nat.le_refl _) (h3.more fun k _ hk => .inl hk), h2, row_kept h.ra fun k hk => h3.block k (row_lt h.ra hk).2.1 (by cases hk; exact hne), fun k hk => ?_, fun k hk => ?_⟩
 ·obtain ⟨g1, g2⟩ := h.hI k hk
  exact ⟨g1, (h3.block k (Array.getElem?_eq_some_iff.1 g2).1 (by omega)).trans g2⟩
 ·obtain ⟨g1, g2⟩ := h.hV k hk
  exact ⟨g1, (h3.block k (Array.getElem?_eq_some_iff.1 g2).1 (by omega)).trans g2⟩
end
theorem set4 {α : Type} {xs : List α} {i j : Nat} {a b c d : α} (h : i ≠ j) : (((xs.set i a).set j b).set i c).set j d = (xs.set j d).set i c := by
 rw [List.set_comm _ _ h, List.set_set, List.set_comm _ _ (Ne.symm h), List.set_set]
 exact List.set_comm _ _ h
theorem mov_end {V U : World} {gc n C i ga gt ma mt Ca Ct k j : Nat} {xs ys : List Value} {x : Ins} {p q : Int} {z : Opd} {ca ct : Value} (hca : ca.ownBlock = some ga) (hct : ct.ownBlock = some gt) (hq : I64 q)
  (hpm : p ∈ x.to) (hk : k = x.to.idxOf p) (hj : j = bsI (x.to.eraseIdx k) q) (hz : x.args[k]? = some z) (hva : OwnV V 0 ca x.args) (hvt : OwnI V 0 ct x.to) (hma : (x.args.eraseIdx k).length = ma) (hmt : (x.to.eraseIdx k).length = mt) (hlen : ma = mt)
  (hr : U.ownsRow 0 39 7 (.slice (some ⟨gc, 0, none⟩) n C) n ys) (hys : (ys.set (i * 7 + 6) (.slice (some ⟨gt, 0, none⟩) (mt + 1) Ct)).set (i * 7 + 5) (.slice (some ⟨ga, 0, none⟩) (ma + 1) Ca) = (xs.set (i * 7 + 5) (.slice (some ⟨ga, 0, none⟩) (ma + 1) Ca)).set (i * 7 + 6) (.slice (some ⟨gt, 0, none⟩) (mt + 1) Ct))
  (hra : U.ownsRow 0 42 3 (.slice (some ⟨ga, 0, none⟩) (ma + 1) Ca) (ma + 1) (((x.args.eraseIdx k).flatMap oc).take (j * 3) ++ oc z ++ ((x.args.eraseIdx k).flatMap oc).drop (j * 3)))
  (hrt : U.ownsRow 0 3 1 (.slice (some ⟨gt, 0, none⟩) (mt + 1) Ct) (mt + 1) (((x.to.eraseIdx k).map fun u => Value.int .i64 u).take (j * 1) ++ [.int .i64 q] ++ ((x.to.eraseIdx k).map fun u => Value.int .i64 u).drop (j * 1)))
  (nCA : gc ≠ ga) (nCT : gc ≠ gt) (hon : Only (fun k => k = gc ∨ ca.ownBlock = some k ∨ ct.ownBlock = some k) V.heap.size V U) :
  MovPost V gc n C i xs p q x ca ct (.returned (.tuple #[])) ((U.setCell ⟨gc, i * 7 + 6, none⟩ (.slice (some ⟨gt, 0, none⟩) (mt + 1) Ct)).setCell ⟨gc, i * 7 + 5, none⟩ (.slice (some ⟨ga, 0, none⟩) (ma + 1) Ca)) := by
 have hjl : j ≤ (x.to.eraseIdx k).length := by rw [hj]; exact bsI_le _ _
 have hgd : x.args.getD k ⟨0, 0, 0⟩ = z := by rw [List.getD_eq_getElem?_getD, hz]; rfl
 have hmov : movI p q x = ⟨x.op, x.reg, x.ty, x.num, x.flags, (x.args.eraseIdx k).insertIdx j z, (x.to.eraseIdx k).insertIdx j q⟩ := by
  unfold movI
  rw [if_pos hpm, ← hk, ← hj, hgd]
 have hin : ∀ b, b ≠ gc → ((U.setCell ⟨gc, i * 7 + 6, none⟩ (.slice (some ⟨gt, 0, none⟩) (mt + 1) Ct)).setCell ⟨gc, i * 7 + 5, none⟩ (.slice (some ⟨ga, 0, none⟩) (ma + 1) Ca)).heap[b]? = U.heap[b]? := fun b hb =>
  (Below.heap_setCell (U.setCell ⟨gc, i * 7 + 6, none⟩ (.slice (some ⟨gt, 0, none⟩) (mt + 1) Ct)) ⟨gc, i * 7 + 5, none⟩ (.slice (some ⟨ga, 0, none⟩) (ma + 1) Ca) b hb).trans (Below.heap_setCell U ⟨gc, i * 7 + 6, none⟩ (.slice (some ⟨gt, 0, none⟩) (mt + 1) Ct) b hb)
 have hi1 := ins_cells (s := 1) (fun u : Int => [Value.int .i64 u]) (fun _ => rfl) (x.to.eraseIdx k) j q hjl
 have hfm : ∀ l : List Int, l.flatMap (fun u : Int => [Value.int .i64 u]) = l.map fun u => Value.int .i64 u := fun l => by induction l <;> simp_all
 rw [hfm, hfm] at hi1
 have hia := ins_cells (s := 3) oc (fun _ => rfl) (x.args.eraseIdx k) j z (by rw [hma, hlen, ← hmt]; exact hjl)
 have hil : ((x.to.eraseIdx k).insertIdx j q).length = mt + 1 := by rw [List.length_insertIdx_of_le_length hjl, hmt]
 have hal : ((x.args.eraseIdx k).insertIdx j z).length = ma + 1 := by rw [List.length_insertIdx_of_le_length (by rw [hma, hlen, ← hmt]; exact hjl), hma]
 refine ⟨rfl, .slice (some ⟨ga, 0, none⟩) (ma + 1) Ca, .slice (some ⟨gt, 0, none⟩) (mt + 1) Ct, ?_, ?_, hca.symm, hct.symm, ?_, ?_⟩
 ·rw [hmov]
  refine ⟨?_, fun u hu => ?_⟩
  ·show World.ownsRow _ 0 42 3 _ ((x.args.eraseIdx k).insertIdx j z).length _
   rw [hal, hia]
   exact row_kept hra fun b hb => hin b (by cases hb; exact Ne.symm nCA)
  ·rcases (List.mem_insertIdx (by rw [hma, hlen, ← hmt]; exact hjl)).1 hu with h1 | h1
   ·subst h1; exact hva.ok _ (List.mem_of_getElem? hz)
   ·exact hva.ok _ (List.mem_of_mem_eraseIdx h1)
 ·rw [hmov]
  refine ⟨?_, fun u hu => ?_⟩
  ·show World.ownsRow _ 0 3 1 _ ((x.to.eraseIdx k).insertIdx j q).length _
   rw [hil, hi1]
   exact row_kept hrt fun b hb => hin b (by cases hb; exact Ne.symm nCT)
  ·rcases (List.mem_insertIdx hjl).1 hu with h1 | h1
   ·subst h1; exact hq
   ·exact hvt.ok _ (List.mem_of_mem_eraseIdx h1)
 ·rw [← hys]
  exact (World.ownsRow.stored (World.ownsRow.stored hr (i * 7 + 6) (.slice (some ⟨gt, 0, none⟩) (mt + 1) Ct)).1 (i * 7 + 5) (.slice (some ⟨ga, 0, none⟩) (ma + 1) Ca)).1
 ·exact ((hon.setCell (p := ⟨gc, i * 7 + 6, none⟩) (.inl (.inl rfl)) _).setCell (p := ⟨gc, i * 7 + 5, none⟩) (.inl (.inl rfl)) _)
set_option maxRecDepth 100000 in
set_option maxHeartbeats 6400000 in
theorem moved_any {V : World} {gc n C i : Nat} {xs : List Value} {x : Ins} {ca ct : Value} (p q : Int) (hr : V.ownsRow 0 39 7 (.slice (some ⟨gc, 0, none⟩) n C) n xs) (hi : i < n)
  (e5 : xs[i * 7 + 5]? = some ca) (e6 : xs[i * 7 + 6]? = some ct) (hva : OwnV V 0 ca x.args) (hvt : OwnI V 0 ct x.to) (hlen : x.args.length = x.to.length) (hq : I64 q) (hbig : x.to.length < 4611686018427387904) :
  Calls Try.prog 61 #[.pointer (some ⟨gc, i * 7, none⟩), .int .i64 p, .int .i64 q] V (MovPost V gc n C i xs p q x ca ct) := by
 obtain ⟨Aa, Ca, hcaf⟩ := row_form hva.row
 obtain ⟨At, Ct, hctf⟩ := row_form hvt.row
 subst hcaf hctf
 obtain ⟨na, hna⟩ : ∃ na, Hid (na = x.args.length) := ⟨_, hide rfl⟩
 obtain ⟨nt, hnt⟩ : ∃ nt, Hid (nt = x.to.length) := ⟨_, hide rfl⟩
 rw [← hna.out, ← hnt.out] at hlen
 rw [← hnt.out] at hbig
 have hxl := hr.1
 have c5 : V.cell? ⟨gc, i * 7 + 5, none⟩ = some (.slice Aa na Ca) := by rw [World.ownsRow.cellAt hr (i * 7 + 5) (by omega), hna.out]; exact e5
 have c6 : V.cell? ⟨gc, i * 7 + 6, none⟩ = some (.slice At nt Ct) := by rw [World.ownsRow.cellAt hr (i * 7 + 6) (by omega), hnt.out]; exact e6
 have hgcl := (row_lt hr rfl).2.1
 have cI : Hid (Calls Try.prog 83 #[.slice At nt Ct, .int .i64 p] V (fun e w' => e = .returned (.int .i64 (idxI x.to p)) ∧ Below V.heap.size V w')) := hide (by rw [hnt.out]; exact index2_any _ x.to p V V.heap.size (Nat.le_refl _) hvt.rep)
 replace hr := hide hr
 replace e5 := hide e5
 replace e6 := hide e6
 replace hva := hide hva
 replace hvt := hide hvt
 replace hlen := hide hlen
 replace hxl := hide hxl
 go_enter Try.func61, Try.ntmps61
 go_wp2_with (fail)
 refine cI.out.mono ?_
 rintro e V1 ⟨rfl, hb1⟩
 by_cases hpm : p ∈ x.to
 case neg =>
  have hix : idxI x.to p = -1 := by rw [idxI, if_neg hpm]
  rw [hix]
  have hfin : Hid (MovPost V gc n C i xs p q x (.slice Aa x.args.length Ca) (.slice At x.to.length Ct) (.returned (.tuple #[])) V1) := hide (by
   refine ⟨rfl, _, _, ?_, ?_, rfl, rfl, ?_, Only.of_below hb1⟩
   ·rw [movI_no hpm]; exact hva.out.kept fun k _ h => hb1.block k h
   ·rw [movI_no hpm]; exact hvt.out.kept fun k _ h => hb1.block k h
   ·rw [set_self e5.out, set_self e6.out]
    exact row_kept hr.out fun k h => hb1.block k (row_lt hr.out h).2.1)
  go_wp2
  try simp only [Exit.inBlock, Exit.then]
  refine bodyPost_ret (results_none rfl _ _ _) rfl ?_
  exact hfin.out
 obtain ⟨k, hkd⟩ : ∃ k, Hid (k = x.to.idxOf p) := ⟨_, hide rfl⟩
 have hix : idxI x.to p = (k : Int) := by rw [idxI, if_pos hpm, hkd.out]
 rw [hix]
 have hknt : k < nt := by rw [hkd.out, hnt.out]; exact List.idxOf_lt_length_of_mem hpm
 have hkna : k < na := by have := hlen.out; omega
 have hk0 : ¬ ((k : Int) < 0) := by omega
 have hki : (k : Int) < (na : Int) := by omega
 obtain ⟨kj, hkj⟩ : ∃ kj, Hid (kj = k + 1) := ⟨_, hide rfl⟩
 have hsum : IntKind.i64.wrap ((k : Int) + 1) = (kj : Int) := by rw [IntKind.wrap_i64]; have := hkj.out; omega
 have hV1s := hb1.size
 obtain ⟨gt, CT9, htf, -, hgtl⟩ := hvt.out.row.form (by rw [← hnt.out]; omega)
 rw [← hnt.out] at htf
 cases htf
 obtain ⟨ga, CA9, haf, -, hgal⟩ := hva.out.row.form (by rw [← hna.out]; omega)
 rw [← hna.out] at haf
 cases haf
 have tyA := (row_lt hva.out.row rfl).2.2
 have tyT := (row_lt hvt.out.row rfl).2.2
 have tyC := (row_lt hr.out rfl).2.2
 have nAT : ga ≠ gt := ty_ne tyA tyT (by decide)
 have nCA : gc ≠ ga := ty_ne tyC tyA (by decide)
 have nCT : gc ≠ gt := ty_ne tyC tyT (by decide)
 have hna64 : na ≤ 9223372036854775807 := by rw [hna.out]; exact row_bound hva.out.row
 obtain ⟨z, hz⟩ := get_ex (l := x.args) (k := k) (by rw [← hna.out]; exact hkna)
 have hra : Hid (V1.ownsRow 0 42 3 (.slice (some ⟨ga, 0, none⟩) na Ca) na (x.args.flatMap oc)) := hide (by
  have := row_kept hva.out.row (w' := V1) fun q hq => hb1.block q (row_lt hva.out.row hq).2.1
  rwa [← hna.out] at this)
 have hrt : Hid (V1.ownsRow 0 3 1 (.slice (some ⟨gt, 0, none⟩) nt Ct) nt (x.to.map fun z => Value.int .i64 z)) := hide (by
  have := row_kept hvt.out.row (w' := V1) fun q hq => hb1.block q (row_lt hvt.out.row hq).2.1
  rwa [← hnt.out] at this)
 have hr1 : Hid (V1.ownsRow 0 39 7 (.slice (some ⟨gc, 0, none⟩) n C) n xs) := hide (row_kept hr.out fun q hq => hb1.block q (row_lt hr.out hq).2.1)
 have hrd : ∀ q, q < 3 → V1.cell? ⟨ga, k * 3 + q, none⟩ = (oc z)[q]? := fun q hq => by
  rw [World.ownsRow.cellAt hra.out (k * 3 + q) (by omega), oc_get, show (k * 3 + q) / 3 = k by omega, show (k * 3 + q) % 3 = q by omega, hz.out]
  rfl
 have d0 : V1.cell? ⟨ga, k * 3, none⟩ = some (.int .i64 z.kind) := hrd 0 (by omega)
 have d1 : V1.cell? ⟨ga, k * 3 + 1, none⟩ = some (.int .i64 z.num) := hrd 1 (by omega)
 have d2 : V1.cell? ⟨ga, k * 3 + 2, none⟩ = some (.int .u64 z.bits) := hrd 2 (by omega)
 have c5b := be_fact c5 hgcl V1 hb1
 obtain ⟨X, hX, hwX, hXs, hxx⟩ := boxes1 V1 #[.int .i64 z.kind, .int .i64 z.num, .int .u64 z.bits] 42
 replace hX := hide hX
 clear hrd
 replace hb1 := hide hb1
 replace tyA := hide tyA
 replace tyT := hide tyT
 replace tyC := hide tyC
 replace hpm := hide hpm
 have hXs1 : V1.heap.size ≤ X.heap.size := by rw [hXs]; exact Nat.le_succ _
 have hNX : V1.heap.size < X.heap.size := by omega
 have hgcX : gc < X.heap.size := by omega
 replace hXs := hide hXs
 have hoX : Hid (Below V.heap.size V X) := hide (hb1.out.trans (hwX.mono hV1s))
 have hraX : Hid (X.ownsRow 0 42 3 (.slice (some ⟨ga, 0, none⟩) na Ca) na (x.args.flatMap oc)) := hide (row_kept hra.out fun q hq => hwX.block q (row_lt hra.out hq).2.1)
 have hrtX : Hid (X.ownsRow 0 3 1 (.slice (some ⟨gt, 0, none⟩) nt Ct) nt (x.to.map fun z => Value.int .i64 z)) := hide (row_kept hrt.out fun q hq => hwX.block q (row_lt hrt.out hq).2.1)
 have hrX : Hid (X.ownsRow 0 39 7 (.slice (some ⟨gc, 0, none⟩) n C) n xs) := hide (row_kept hr1.out fun q hq => hwX.block q (row_lt hr1.out hq).2.1)
 have hgaX : ga < X.heap.size := (row_lt hraX.out rfl).2.1
 have hgtX : gt < X.heap.size := (row_lt hrtX.out rfl).2.1
 have ngc : ¬ (gc = gt ∨ gc = ga) := by omega
 have hga1 : ga < V1.heap.size := by omega
 have hgt1 : gt < V1.heap.size := by omega
 have nNB : ¬ (V1.heap.size = gt ∨ V1.heap.size = ga) := by omega
 have s5 : ∀ w', Only (fun q => q = gt ∨ q = ga) X.heap.size X w' → w'.cell? ⟨gc, i * 7 + 5, none⟩ = some (.slice (some ⟨ga, 0, none⟩) na Ca) := on_fact (be_fact c5 hgcl X hoX.out) hgcX ngc
 have s6 : ∀ w', Only (fun q => q = gt ∨ q = ga) X.heap.size X w' → w'.cell? ⟨gc, i * 7 + 6, none⟩ = some (.slice (some ⟨gt, 0, none⟩) nt Ct) := on_fact (be_fact c6 hgcl X hoX.out) hgcX ngc
 have z5 : ∀ w', Only (fun q => q = gt ∨ q = ga) X.heap.size X w' → w'.frozen? ⟨gc, i * 7 + 5, none⟩ = false := on_free (row_free hrX.out _) hgcX ngc
 have z6 : ∀ w', Only (fun q => q = gt ∨ q = ga) X.heap.size X w' → w'.frozen? ⟨gc, i * 7 + 6, none⟩ = false := on_free (row_free hrX.out _) hgcX ngc
 have hx0 : Hid (X.cell? ⟨V1.heap.size, 0, none⟩ = some (.int .i64 z.kind)) := hide (hxx 0 _ rfl X (Below.refl _ _))
 have hx1 : Hid (X.cell? ⟨V1.heap.size, 1, none⟩ = some (.int .i64 z.num)) := hide (hxx 1 _ rfl X (Below.refl _ _))
 have hx2 : Hid (X.cell? ⟨V1.heap.size, 2, none⟩ = some (.int .u64 z.bits)) := hide (hxx 2 _ rfl X (Below.refl _ _))
 replace hwX := hide hwX
 clear hxx
 go_upto_region 3 with (fail)
 rw [hX.out]
 clear c5 c6 c5b d0 d1 d2
 refine wp_region_U (S := fun u => Only (fun q => q = gt ∨ q = ga) X.heap.size X u) (T := fun j => decide (j < 18) && decide (j ≠ 1)) (by kernel_rfl) ?_
 obtain ⟨U0, hU0⟩ : ∃ U0, Hid (X.drew = U0) := ⟨_, hide rfl⟩
 have hS0 : Hid (Only (fun q => q = gt ∨ q = ga) X.heap.size X U0) := hide (by rw [← hU0.out]; exact (Only.refl _ _ _).drew)
 have hrt0 : Hid (U0.ownsRow 0 3 1 (.slice (some ⟨gt, 0, none⟩) nt Ct) nt (x.to.map fun z => Value.int .i64 z)) := hide (by rw [← hU0.out]; exact hrtX.out)
 have hra0 : Hid (U0.ownsRow 0 42 3 (.slice (some ⟨ga, 0, none⟩) na Ca) na (x.args.flatMap oc)) := hide (by rw [← hU0.out]; exact hraX.out)
 rw [hU0.out]
 refine wpAnyU_takeY (i := 1) (v := ?_) (by simp only [List.getElem?_toArray, List.getElem?_cons_succ, List.getElem?_cons_zero]; rfl) (by kernel_rfl) (by kernel_rfl) (by kernel_rfl) (by rfl) (by exact fun _ _ _ h => h) (Or.inl ⟨by rfl, ?_⟩) ?_
 rotate_left
 ·intro w9 hSw
  go_simp
  all_goals with_reducible rfl
 try simp only [Act.put, List.setIfInBounds_toArray, List.set_cons_zero, List.set_cons_succ]
 refine wpAnyU_take (i := 0) (v := ?_) (by simp only [List.getElem?_toArray, List.getElem?_cons_succ, List.getElem?_cons_zero]; rfl) (by kernel_rfl) (by kernel_rfl) (by kernel_rfl) (by kernel_rfl) (by exact fun _ _ _ h => h) (Or.inl ⟨by rfl, ?_⟩) (by exact hS0.out) ?_
 rotate_left
 ·intro w9 hSw
  go_simp
  all_goals with_reducible rfl
 try simp only [Act.put, List.setIfInBounds_toArray, List.set_cons_zero, List.set_cons_succ]
 refine wpAnyU_take (i := 2) (v := ?_) (by simp only [List.getElem?_toArray, List.getElem?_cons_succ, List.getElem?_cons_zero]; rfl) (by kernel_rfl) (by kernel_rfl) (by kernel_rfl) (by kernel_rfl) (by exact fun _ _ _ h => h) (Or.inl ⟨by rfl, ?_⟩) (by exact hS0.out) ?_
 rotate_left
 ·intro w9 hSw
  go_simp
  all_goals with_reducible rfl
 try simp only [Act.put, List.setIfInBounds_toArray, List.set_cons_zero, List.set_cons_succ]
 refine wpAnyU_take (i := 3) (v := ?_) (by simp only [List.getElem?_toArray, List.getElem?_cons_succ, List.getElem?_cons_zero]; rfl) (by kernel_rfl) (by kernel_rfl) (by kernel_rfl) (by kernel_rfl) (by exact fun _ _ _ h => h) (Or.inl ⟨by rfl, ?_⟩) (by exact hS0.out) ?_
 rotate_left
 ·intro w9 hSw
  go_simp
  all_goals with_reducible rfl
 try simp only [Act.put, List.setIfInBounds_toArray, List.set_cons_zero, List.set_cons_succ]
 refine wpAnyU_take (i := 4) (v := ?_) (by simp only [List.getElem?_toArray, List.getElem?_cons_succ, List.getElem?_cons_zero]; rfl) (by kernel_rfl) (by kernel_rfl) (by kernel_rfl) (by kernel_rfl) (by exact fun _ _ _ h => h) (Or.inl ⟨by rfl, ?_⟩) (by exact hS0.out) ?_
 rotate_left
 ·intro w9 hSw
  go_simp
  all_goals with_reducible rfl
 try simp only [Act.put, List.setIfInBounds_toArray, List.set_cons_zero, List.set_cons_succ]
 refine wpAnyU_take (i := 5) (v := ?_) (by simp only [List.getElem?_toArray, List.getElem?_cons_succ, List.getElem?_cons_zero]; rfl) (by kernel_rfl) (by kernel_rfl) (by kernel_rfl) (by kernel_rfl) (by exact fun _ _ _ h => h) (Or.inl ⟨by rfl, ?_⟩) (by exact hS0.out) ?_
 rotate_left
 ·intro w9 hSw
  go_simp
  all_goals with_reducible rfl
 try simp only [Act.put, List.setIfInBounds_toArray, List.set_cons_zero, List.set_cons_succ]
 refine wpAnyU_take (i := 6) (v := ?_) (by simp only [List.getElem?_toArray, List.getElem?_cons_succ, List.getElem?_cons_zero]; rfl) (by kernel_rfl) (by kernel_rfl) (by kernel_rfl) (by kernel_rfl) (by exact fun _ _ _ h => h) (Or.inl ⟨by rfl, ?_⟩) (by exact hS0.out) ?_
 rotate_left
 ·intro w9 hSw
  go_simp
  all_goals with_reducible rfl
 try simp only [Act.put, List.setIfInBounds_toArray, List.set_cons_zero, List.set_cons_succ]
 refine wpAnyU_take (i := 7) (v := ?_) (by simp only [List.getElem?_toArray, List.getElem?_cons_succ, List.getElem?_cons_zero]; rfl) (by kernel_rfl) (by kernel_rfl) (by kernel_rfl) (by kernel_rfl) (by exact fun _ _ _ h => h) (Or.inl ⟨by rfl, ?_⟩) (by exact hS0.out) ?_
 rotate_left
 ·intro w9 hSw
  go_simp
  all_goals with_reducible rfl
 try simp only [Act.put, List.setIfInBounds_toArray, List.set_cons_zero, List.set_cons_succ]
 refine wpAnyU_take (i := 8) (v := ?_) (by simp only [List.getElem?_toArray, List.getElem?_cons_succ, List.getElem?_cons_zero]; rfl) (by kernel_rfl) (by kernel_rfl) (by kernel_rfl) (by kernel_rfl) (by exact fun _ _ _ h => h) (Or.inl ⟨by rfl, ?_⟩) (by exact hS0.out) ?_
 rotate_left
 ·intro w9 hSw
  go_simp
  all_goals with_reducible rfl
 try simp only [Act.put, List.setIfInBounds_toArray, List.set_cons_zero, List.set_cons_succ]
 refine wpAnyU_take (i := 10) (v := ?_) (by simp only [List.getElem?_toArray, List.getElem?_cons_succ, List.getElem?_cons_zero]; rfl) (by kernel_rfl) (by kernel_rfl) (by kernel_rfl) (by kernel_rfl) (by exact fun _ _ _ h => h) (Or.inl ⟨by rfl, ?_⟩) (by exact hS0.out) ?_
 rotate_left
 ·intro w9 hSw
  go_simp
  all_goals with_reducible rfl
 try simp only [Act.put, List.setIfInBounds_toArray, List.set_cons_zero, List.set_cons_succ]
 refine wpAnyU_take (i := 11) (v := ?_) (by simp only [List.getElem?_toArray, List.getElem?_cons_succ, List.getElem?_cons_zero]; rfl) (by kernel_rfl) (by kernel_rfl) (by kernel_rfl) (by kernel_rfl) (by exact fun _ _ _ h => h) (Or.inl ⟨by rfl, ?_⟩) (by exact hS0.out) ?_
 rotate_left
 ·intro w9 hSw
  go_simp
  all_goals with_reducible rfl
 try simp only [Act.put, List.setIfInBounds_toArray, List.set_cons_zero, List.set_cons_succ]
 refine wpAnyU_take (i := 12) (v := ?_) (by simp only [List.getElem?_toArray, List.getElem?_cons_succ, List.getElem?_cons_zero]; rfl) (by kernel_rfl) (by kernel_rfl) (by kernel_rfl) (by kernel_rfl) (by exact fun _ _ _ h => h) (Or.inl ⟨by rfl, ?_⟩) (by exact hS0.out) ?_
 rotate_left
 ·intro w9 hSw
  go_simp
  all_goals with_reducible rfl
 try simp only [Act.put, List.setIfInBounds_toArray, List.set_cons_zero, List.set_cons_succ]
 refine wpAnyU_take (i := 13) (v := ?_) (by simp only [List.getElem?_toArray, List.getElem?_cons_succ, List.getElem?_cons_zero]; rfl) (by kernel_rfl) (by kernel_rfl) (by kernel_rfl) (by kernel_rfl) (by exact fun _ _ _ h => h) (Or.inl ⟨by rfl, ?_⟩) (by exact hS0.out) ?_
 rotate_left
 ·intro w9 hSw
  go_simp
  all_goals with_reducible rfl
 try simp only [Act.put, List.setIfInBounds_toArray, List.set_cons_zero, List.set_cons_succ]
 refine wpAnyU_take (i := 14) (v := ?_) (by simp only [List.getElem?_toArray, List.getElem?_cons_succ, List.getElem?_cons_zero]; rfl) (by kernel_rfl) (by kernel_rfl) (by kernel_rfl) (by kernel_rfl) (by exact fun _ _ _ h => h) (Or.inl ⟨by rfl, ?_⟩) (by exact hS0.out) ?_
 rotate_left
 ·intro w9 hSw
  go_simp
  all_goals with_reducible rfl
 try simp only [Act.put, List.setIfInBounds_toArray, List.set_cons_zero, List.set_cons_succ]
 refine wpAnyU_take (i := 15) (v := ?_) (by simp only [List.getElem?_toArray, List.getElem?_cons_succ, List.getElem?_cons_zero]; rfl) (by kernel_rfl) (by kernel_rfl) (by kernel_rfl) (by kernel_rfl) (by exact fun _ _ _ h => h) (Or.inl ⟨by rfl, ?_⟩) (by exact hS0.out) ?_
 rotate_left
 ·intro w9 hSw
  go_simp
  all_goals with_reducible rfl
 try simp only [Act.put, List.setIfInBounds_toArray, List.set_cons_zero, List.set_cons_succ]
 refine wpAnyU_take (i := 16) (v := ?_) (by simp only [List.getElem?_toArray, List.getElem?_cons_succ, List.getElem?_cons_zero]; rfl) (by kernel_rfl) (by kernel_rfl) (by kernel_rfl) (by kernel_rfl) (by exact fun _ _ _ h => h) (Or.inl ⟨by rfl, ?_⟩) (by exact hS0.out) ?_
 rotate_left
 ·intro w9 hSw
  go_simp
  all_goals with_reducible rfl
 try simp only [Act.put, List.setIfInBounds_toArray, List.set_cons_zero, List.set_cons_succ]
 refine wpAnyU_ready (rs := [9]) (by kernel_rfl) (by simp) ?_
 refine AllReadyU.cons (by simp only [List.getElem?_toArray, List.getElem?_cons_succ, List.getElem?_cons_zero]; rfl) (fun K hK => ?_) AllReadyU.nil
 (try go_simp)
 go_at_call 84
 refine (delete_ints gt nt Ct k 0 _ U0 hrt0.out kj hkj.out hknt int_one).mono ?_
 rintro e U1 ⟨rfl, hr1, ho1⟩
 have hS1 : Hid (Only (fun q => q = gt ∨ q = ga) X.heap.size X U1) := hide (hS0.out.next (Nat.le_refl _) (ho1.more fun q _ hq => Or.inl hq))
 have hra1 : Hid (U1.ownsRow 0 42 3 (.slice (some ⟨ga, 0, none⟩) na Ca) na (x.args.flatMap oc)) := hide (row_kept hra0.out fun q hq => ho1.block q (row_lt hra0.out hq).2.1 (by cases hq; exact nAT))
 replace hr1 := hide hr1
 clear ho1
 refine hK.out _ _ (fun _ => hS1.out) ?_
 clear hK K
 try simp only [Act.put, List.setIfInBounds_toArray, List.set_cons_zero, List.set_cons_succ]
 refine wpAnyU_ready (rs := [17]) (by kernel_rfl) (by simp) ?_
 refine AllReadyU.cons (by simp only [List.getElem?_toArray, List.getElem?_cons_succ, List.getElem?_cons_zero]; rfl) (fun K hK => ?_) AllReadyU.nil
 (try go_simp)
 go_at_call 85
 refine (delete_opds ga na Ca k 0 _ U1 hra1.out kj hkj.out hkna oc_one9).mono ?_
 rintro e U2 ⟨rfl, hr2, ho2⟩
 have hS2 : Hid (Only (fun q => q = gt ∨ q = ga) X.heap.size X U2) := hide (hS1.out.next (Nat.le_refl _) (ho2.more fun q _ hq => Or.inr hq))
 have hrt2 := hide (row_kept hr1.out fun q hq => ho2.block q (row_lt hr1.out hq).2.1 (by cases hq; exact fun e => nAT e.symm))
 replace hr2 := hide hr2
 have y5 := s5 U2 hS2.out
 have y6 := s6 U2 hS2.out
 have yz5 := z5 U2 hS2.out
 have yz6 := z6 U2 hS2.out
 clear ho2
 refine hK.out _ _ (fun _ => hS2.out) ?_
 clear hK K
 try simp only [Act.put, List.setIfInBounds_toArray, List.set_cons_zero, List.set_cons_succ]
 refine wpAnyU_takeY (i := 18) (v := ?_) (by simp only [List.getElem?_toArray, List.getElem?_cons_succ, List.getElem?_cons_zero]; rfl) (by kernel_rfl) (by kernel_rfl) (by kernel_rfl) (by rfl) (by exact fun _ _ _ h => h) (Or.inl ⟨by rfl, ?_⟩) ?_
 rotate_left
 ·intro w9 hSw
  go_simp
  all_goals with_reducible rfl
 try simp only [Act.put, List.setIfInBounds_toArray, List.set_cons_zero, List.set_cons_succ]
 refine wpAnyU_takeY (i := 19) (v := ?_) (by simp only [List.getElem?_toArray, List.getElem?_cons_succ, List.getElem?_cons_zero]; rfl) (by kernel_rfl) (by kernel_rfl) (by kernel_rfl) (by rfl) (by exact fun _ _ _ h => h) (Or.inl ⟨by rfl, ?_⟩) ?_
 rotate_left
 ·intro w9 hSw
  go_simp
  all_goals with_reducible rfl
 try simp only [Act.put, List.setIfInBounds_toArray, List.set_cons_zero, List.set_cons_succ]
 refine wpAnyU_ready (rs := [20]) (by kernel_rfl) (by simp) ?_
 refine AllReadyU.cons (by simp only [List.getElem?_toArray, List.getElem?_cons_succ, List.getElem?_cons_zero]; rfl) (fun K hK => ?_) AllReadyU.nil
 go_simp
 refine hK.out _ _ (fun h => absurd h (by decide)) ?_
 clear hK K
 try simp only [Act.put, List.setIfInBounds_toArray, List.set_cons_zero, List.set_cons_succ]
 refine wpAnyU_takeY (i := 21) (v := ?_) (by simp only [List.getElem?_toArray, List.getElem?_cons_succ, List.getElem?_cons_zero]; rfl) (by kernel_rfl) (by kernel_rfl) (by kernel_rfl) (by rfl) (by exact fun _ _ _ h => h) (Or.inl ⟨by rfl, ?_⟩) ?_
 rotate_left
 ·intro w9 hSw
  go_simp
  all_goals with_reducible rfl
 try simp only [Act.put, List.setIfInBounds_toArray, List.set_cons_zero, List.set_cons_succ]
 refine wpAnyU_takeY (i := 22) (v := ?_) (by simp only [List.getElem?_toArray, List.getElem?_cons_succ, List.getElem?_cons_zero]; rfl) (by kernel_rfl) (by kernel_rfl) (by kernel_rfl) (by rfl) (by exact fun _ _ _ h => h) (Or.inl ⟨by rfl, ?_⟩) ?_
 rotate_left
 ·intro w9 hSw
  go_simp
  all_goals with_reducible rfl
 try simp only [Act.put, List.setIfInBounds_toArray, List.set_cons_zero, List.set_cons_succ]
 refine wpAnyU_ready (rs := [23]) (by kernel_rfl) (by simp) ?_
 refine AllReadyU.cons (by simp only [List.getElem?_toArray, List.getElem?_cons_succ, List.getElem?_cons_zero]; rfl) (fun K hK => ?_) AllReadyU.nil
 go_simp
 refine hK.out _ _ (fun h => absurd h (by decide)) ?_
 clear hK K
 try simp only [Act.put, List.setIfInBounds_toArray, List.set_cons_zero, List.set_cons_succ]
 refine wpAnyU_done (by kernel_rfl) ?_ _
 obtain ⟨ma, hma⟩ : ∃ ma, Hid (ma = na - 1) := ⟨_, hide rfl⟩
 obtain ⟨mt, hmt⟩ : ∃ mt, Hid (mt = nt - 1) := ⟨_, hide rfl⟩
 rw [← hma.out, ← hmt.out]
 obtain ⟨U3, hU3⟩ : ∃ U3, Hid ((U2.setCell ⟨gc, i * 7 + 6, none⟩ (.slice (some ⟨gt, 0, none⟩) mt Ct)).setCell ⟨gc, i * 7 + 5, none⟩ (.slice (some ⟨ga, 0, none⟩) ma Ca) = U3) := ⟨_, hide rfl⟩
 have hin3 : ∀ q, q ≠ gc → U3.heap[q]? = U2.heap[q]? := fun q h2 => by
  rw [← hU3.out]
  exact (Below.heap_setCell (U2.setCell ⟨gc, i * 7 + 6, none⟩ (.slice (some ⟨gt, 0, none⟩) mt Ct)) ⟨gc, i * 7 + 5, none⟩ (.slice (some ⟨ga, 0, none⟩) ma Ca) q h2).trans (Below.heap_setCell U2 ⟨gc, i * 7 + 6, none⟩ (.slice (some ⟨gt, 0, none⟩) mt Ct) q h2)
 have hal : Hid ((x.args.eraseIdx k).length = ma) := hide (by rw [List.length_eraseIdx, if_pos (by rw [← hna.out]; exact hkna), ← hna.out, hma.out])
 have htl : Hid ((x.to.eraseIdx k).length = mt) := hide (by rw [List.length_eraseIdx, if_pos (by rw [← hnt.out]; exact hknt), ← hnt.out, hmt.out])
 have hra3 : Hid (U3.ownsRow 0 42 3 (.slice (some ⟨ga, 0, none⟩) ma Ca) ma ((x.args.eraseIdx k).flatMap oc)) := hide (by
  have h1 := row_kept hr2.out (w' := U3) fun q hq => hin3 q (by cases hq; exact fun e => nCA e.symm)
  rw [oc_erase (by rw [← hna.out]; exact hkna)]
  refine row_prefix h1 ?_ (by have := hma.out; omega)
  rw [← oc_erase (by rw [← hna.out]; exact hkna), oc_len, hal.out])
 have hrt3 : Hid (U3.ownsRow 0 3 1 (.slice (some ⟨gt, 0, none⟩) mt Ct) mt ((x.to.eraseIdx k).map fun z => Value.int .i64 z)) := hide (by
  have h1 := row_kept hrt2.out (w' := U3) fun q hq => hin3 q (by cases hq; exact fun e => nCT e.symm)
  rw [int_erase]
  refine row_prefix h1 ?_ (by have := hmt.out; omega)
  rw [← int_erase, List.length_map, htl.out, Nat.mul_one])
 have hr3 : Hid (U3.ownsRow 0 39 7 (.slice (some ⟨gc, 0, none⟩) n C) n ((xs.set (i * 7 + 6) (.slice (some ⟨gt, 0, none⟩) mt Ct)).set (i * 7 + 5) (.slice (some ⟨ga, 0, none⟩) ma Ca))) := hide (by
  have h1 := row_kept hrX.out (w' := U2) fun q hq => hS2.out.block q (row_lt hrX.out hq).2.1 (by cases hq; exact ngc)
  rw [← hU3.out]
  exact (World.ownsRow.stored (World.ownsRow.stored h1 (i * 7 + 6) (.slice (some ⟨gt, 0, none⟩) mt Ct)).1 (i * 7 + 5) (.slice (some ⟨ga, 0, none⟩) ma Ca)).1)
 have hS2s := hS2.out.size
 have hU3s : Hid (U3.heap.size = U2.heap.size) := hide (by rw [← hU3.out]; simp)
 have hXU3 : Hid (X.heap.size ≤ U3.heap.size) := hide (by rw [hU3s.out]; exact hS2s)
 have hxlen := hxl.out
 have e53 : U3.cell? ⟨gc, i * 7 + 5, none⟩ = some (.slice (some ⟨ga, 0, none⟩) ma Ca) := by
  rw [World.ownsRow.cellAt hr3.out (i * 7 + 5) (by omega), List.getElem?_set_self (by rw [List.length_set]; omega)]
 have e63 : U3.cell? ⟨gc, i * 7 + 6, none⟩ = some (.slice (some ⟨gt, 0, none⟩) mt Ct) := by
  rw [World.ownsRow.cellAt hr3.out (i * 7 + 6) (by omega), List.getElem?_set_ne (by omega), List.getElem?_set_self (by omega)]
 have hNBc : ∀ j u, X.cell? ⟨V1.heap.size, j, none⟩ = some u → U3.cell? ⟨V1.heap.size, j, none⟩ = some u := fun j u hu => by
  rw [World.cell?_of_block (w := U2) (hin3 V1.heap.size (by omega))]
  exact on_fact hu hNX nNB U2 hS2.out
 have b03 := hNBc 0 _ hx0.out
 have b13 := hNBc 1 _ hx1.out
 have b23 := hNBc 2 _ hx2.out
 have hon3 : Hid (Only (fun b => b = gc ∨ (Value.slice (some ⟨ga, 0, none⟩) x.args.length Ca).ownBlock = some b ∨ (Value.slice (some ⟨gt, 0, none⟩) x.to.length Ct).ownBlock = some b) V.heap.size V U3) := hide (by
  rw [← hU3.out]
  refine (((Only.of_below hoX.out).next (Nat.le_refl _) (hS2.out.more fun b _ hb => ?_)).setCell (p := ⟨gc, i * 7 + 6, none⟩) (.inl (.inl rfl)) _).setCell (p := ⟨gc, i * 7 + 5, none⟩) (.inl (.inl rfl)) _
  rcases hb with h1 | h1
  ·subst h1; exact .inr (.inr rfl)
  ·subst h1; exact .inr (.inl rfl))
 have hgcU3 : gc < U3.heap.size := by have := hXU3.out; omega
 have hNU3 : V1.heap.size < U3.heap.size := by have := hXU3.out; omega
 have hgaU3 : ga < U3.heap.size := by have := hXU3.out; omega
 have hgtU3 : gt < U3.heap.size := by have := hXU3.out; omega
 obtain ⟨j, hj⟩ : ∃ j, Hid (j = bsI (x.to.eraseIdx k) q) := ⟨_, hide rfl⟩
 have hjm : j ≤ mt := by rw [hj.out, ← htl.out]; exact bsI_le _ _
 have hmam : Hid (ma = mt) := hide (by have := hlen.out; have := hma.out; have := hmt.out; omega)
 have cB : Hid (Calls Try.prog 87 #[.slice (some ⟨gt, 0, none⟩) mt Ct, .int .i64 q] U3 (fun e w' => (∃ bb, e = .returned (.tuple #[.int .i64 (j : Nat), .bool bb])) ∧ Below U3.heap.size U3 w')) := hide (by
  rw [hj.out]
  refine bsearch_any _ (x.to.eraseIdx k) q U3 U3.heap.size (Nat.le_refl _) ?_ (by rw [htl.out]; have := hmt.out; omega)
  have h9 : OwnI U3 0 (.slice (some ⟨gt, 0, none⟩) mt Ct) (x.to.eraseIdx k) := ⟨by rw [htl.out]; exact hrt3.out, fun u hu => hvt.out.ok u (List.mem_of_mem_eraseIdx hu)⟩
  exact h9.rep)
 rw [hU3.out]
 clear hin3 hNBc y5 y6 yz5 yz6 s5 s6 z5 z6 hxlen hS2s
 go_wp2_with (fail)
 refine cB.out.mono ?_
 rintro e U4 ⟨⟨bb, rfl⟩, hb4⟩
 have hU4s := hb4.size
 have hgcU4 : gc < U4.heap.size := by omega
 have hNU4 : V1.heap.size < U4.heap.size := by omega
 have hgaU4 : ga < U4.heap.size := by omega
 have hgtU4 : gt < U4.heap.size := by omega
 have hra4 : Hid (U4.ownsRow 0 42 3 (.slice (some ⟨ga, 0, none⟩) ma Ca) ma ((x.args.eraseIdx k).flatMap oc)) := hide (row_kept hra3.out fun q hq => hb4.block q (row_lt hra3.out hq).2.1)
 have hrt4 : Hid (U4.ownsRow 0 3 1 (.slice (some ⟨gt, 0, none⟩) mt Ct) mt ((x.to.eraseIdx k).map fun z => Value.int .i64 z)) := hide (row_kept hrt3.out fun q hq => hb4.block q (row_lt hrt3.out hq).2.1)
 have hr4 := hide (row_kept hr3.out (w' := U4) fun q hq => hb4.block q (row_lt hr3.out hq).2.1)
 have hon4 := hide (hon3.out.next (Nat.le_refl _) (Only.of_below hb4))
 have e54 : ∀ w', Only (fun q => q = gt ∨ q = ga) U4.heap.size U4 w' → w'.cell? ⟨gc, i * 7 + 5, none⟩ = some (.slice (some ⟨ga, 0, none⟩) ma Ca) := on_fact (be_fact e53 hgcU3 U4 hb4) hgcU4 ngc
 have e64 : ∀ w', Only (fun q => q = gt ∨ q = ga) U4.heap.size U4 w' → w'.cell? ⟨gc, i * 7 + 6, none⟩ = some (.slice (some ⟨gt, 0, none⟩) mt Ct) := on_fact (be_fact e63 hgcU3 U4 hb4) hgcU4 ngc
 have z54 : ∀ w', Only (fun q => q = gt ∨ q = ga) U4.heap.size U4 w' → w'.frozen? ⟨gc, i * 7 + 5, none⟩ = false := on_free (row_free hr4.out _) hgcU4 ngc
 have z64 : ∀ w', Only (fun q => q = gt ∨ q = ga) U4.heap.size U4 w' → w'.frozen? ⟨gc, i * 7 + 6, none⟩ = false := on_free (row_free hr4.out _) hgcU4 ngc
 have b04 : ∀ w', Only (fun q => q = gt ∨ q = ga) U4.heap.size U4 w' → w'.cell? ⟨V1.heap.size, 0, none⟩ = some (.int .i64 z.kind) := on_fact (be_fact b03 hNU3 U4 hb4) hNU4 nNB
 have b14 : ∀ w', Only (fun q => q = gt ∨ q = ga) U4.heap.size U4 w' → w'.cell? ⟨V1.heap.size, 1, none⟩ = some (.int .i64 z.num) := on_fact (be_fact b13 hNU3 U4 hb4) hNU4 nNB
 have b24 : ∀ w', Only (fun q => q = gt ∨ q = ga) U4.heap.size U4 w' → w'.cell? ⟨V1.heap.size, 2, none⟩ = some (.int .u64 z.bits) := on_fact (be_fact b23 hNU3 U4 hb4) hNU4 nNB
 have hCa : ma < Ca := by
  rcases hra.out.2 with ⟨e1, -⟩ | ⟨g', cap, cur, e1, -, -, h1, -⟩
  ·cases e1
  ·cases e1; have := hma.out; omega
 have hCt : mt < Ct := by
  rcases hrt.out.2 with ⟨e1, -⟩ | ⟨g', cap, cur, e1, -, -, h1, -⟩
  ·cases e1
  ·cases e1; have := hmt.out; omega
 have hend : Hid (∀ U, MvSt U4 U ga gt (ma + 1) (mt + 1) Ca Ct q z (((x.args.eraseIdx k).flatMap oc).take (j * 3) ++ oc z ++ ((x.args.eraseIdx k).flatMap oc).drop (j * 3)) (((x.to.eraseIdx k).map fun u => Value.int .i64 u).take (j * 1) ++ [.int .i64 q] ++ ((x.to.eraseIdx k).map fun u => Value.int .i64 u).drop (j * 1)) none none →
   MovPost V gc n C i xs p q x (.slice (some ⟨ga, 0, none⟩) x.args.length Ca) (.slice (some ⟨gt, 0, none⟩) x.to.length Ct) (.returned (.tuple #[])) ((U.setCell ⟨gc, i * 7 + 6, none⟩ (.slice (some ⟨gt, 0, none⟩) (mt + 1) Ct)).setCell ⟨gc, i * 7 + 5, none⟩ (.slice (some ⟨ga, 0, none⟩) (ma + 1) Ca))) := hide (fun U hU => by
  refine mov_end rfl rfl hq hpm.out hkd.out hj.out hz.out hva.out hvt.out hal.out htl.out hmam.out (row_kept hr4.out fun b hb => hU.only.block b (row_lt hr4.out hb).2.1 (by cases hb; exact ngc)) (set4 (by omega)) hU.ra hU.rt nCA nCT (hon4.out.next (Nat.le_refl _) (hU.only.more fun b _ hb => ?_))
  rcases hb with h1 | h1
  ·subst h1; exact .inr (.inr rfl)
  ·subst h1; exact .inr (.inl rfl))
 clear e53 e63 b03 b13 b23 hb4
 go_upto_region 5 with (fail)
 refine wp_region_U (S := fun u => Only (fun q => q = gt ∨ q = ga) U4.heap.size U4 u) (T := fun j => decide (j < 18) && decide (j ≠ 0) && decide (j ≠ 1)) (by kernel_rfl) ?_
 obtain ⟨M0, hM0⟩ : ∃ M0, Hid (U4.drew = M0) := ⟨_, hide rfl⟩
 have hM : Hid (MvSt U4 M0 ga gt ma mt Ca Ct q z ((x.args.eraseIdx k).flatMap oc) ((x.to.eraseIdx k).map fun u => Value.int .i64 u) none none) := hide (by
  rw [← hM0.out]
  exact ⟨(Only.refl _ _ _).drew, hrt4.out, hra4.out, fun k hk => (by cases hk), fun k hk => (by cases hk)⟩)
 rw [hM0.out]
 refine wpAnyU_takeY (i := 0) (v := ?_) (by simp only [List.getElem?_toArray, List.getElem?_cons_succ, List.getElem?_cons_zero]; rfl) (by kernel_rfl) (by kernel_rfl) (by kernel_rfl) (by rfl) (by exact fun _ _ _ h => h) (Or.inl ⟨by rfl, ?_⟩) ?_
 rotate_left
 ·intro w9 hSw
  go_simp
  all_goals with_reducible rfl
 try simp only [Act.put, List.setIfInBounds_toArray, List.set_cons_zero, List.set_cons_succ]
 refine wpAnyU_takeY (i := 1) (v := ?_) (by simp only [List.getElem?_toArray, List.getElem?_cons_succ, List.getElem?_cons_zero]; rfl) (by kernel_rfl) (by kernel_rfl) (by kernel_rfl) (by rfl) (by exact fun _ _ _ h => h) (Or.inl ⟨by rfl, ?_⟩) ?_
 rotate_left
 ·intro w9 hSw
  go_simp
  all_goals with_reducible rfl
 try simp only [Act.put, List.setIfInBounds_toArray, List.set_cons_zero, List.set_cons_succ]
 refine wpAnyU_take (i := 2) (v := ?_) (by simp only [List.getElem?_toArray, List.getElem?_cons_succ, List.getElem?_cons_zero]; rfl) (by kernel_rfl) (by kernel_rfl) (by kernel_rfl) (by kernel_rfl) (by exact fun _ _ _ h => h) (Or.inl ⟨by rfl, ?_⟩) (by exact hM.out.only) ?_
 rotate_left
 ·intro w9 hSw
  go_simp
  all_goals with_reducible rfl
 try simp only [Act.put, List.setIfInBounds_toArray, List.set_cons_zero, List.set_cons_succ]
 refine wpAnyU_take (i := 3) (v := ?_) (by simp only [List.getElem?_toArray, List.getElem?_cons_succ, List.getElem?_cons_zero]; rfl) (by kernel_rfl) (by kernel_rfl) (by kernel_rfl) (by kernel_rfl) (by exact fun _ _ _ h => h) (Or.inl ⟨by rfl, ?_⟩) (by exact hM.out.only) ?_
 rotate_left
 ·intro w9 hSw
  go_simp
  all_goals with_reducible rfl
 try simp only [Act.put, List.setIfInBounds_toArray, List.set_cons_zero, List.set_cons_succ]
 refine wpAnyU_take (i := 4) (v := ?_) (by simp only [List.getElem?_toArray, List.getElem?_cons_succ, List.getElem?_cons_zero]; rfl) (by kernel_rfl) (by kernel_rfl) (by kernel_rfl) (by kernel_rfl) (by exact fun _ _ _ h => h) (Or.inl ⟨by rfl, ?_⟩) (by exact hM.out.only) ?_
 rotate_left
 ·intro w9 hSw
  go_simp
  all_goals with_reducible rfl
 try simp only [Act.put, List.setIfInBounds_toArray, List.set_cons_zero, List.set_cons_succ]
 refine wpAnyU_take (i := 5) (v := ?_) (by simp only [List.getElem?_toArray, List.getElem?_cons_succ, List.getElem?_cons_zero]; rfl) (by kernel_rfl) (by kernel_rfl) (by kernel_rfl) (by kernel_rfl) (by exact fun _ _ _ h => h) (Or.inl ⟨by rfl, ?_⟩) (by exact hM.out.only) ?_
 rotate_left
 ·intro w9 hSw
  go_simp
  all_goals with_reducible rfl
 try simp only [Act.put, List.setIfInBounds_toArray, List.set_cons_zero, List.set_cons_succ]
 refine wpAnyU_take (i := 6) (v := ?_) (by simp only [List.getElem?_toArray, List.getElem?_cons_succ, List.getElem?_cons_zero]; rfl) (by kernel_rfl) (by kernel_rfl) (by kernel_rfl) (by kernel_rfl) (by exact fun _ _ _ h => h) (Or.inl ⟨by rfl, ?_⟩) (by exact hM.out.only) ?_
 rotate_left
 ·intro w9 hSw
  go_simp
  all_goals with_reducible rfl
 try simp only [Act.put, List.setIfInBounds_toArray, List.set_cons_zero, List.set_cons_succ]
 refine wpAnyU_take (i := 7) (v := ?_) (by simp only [List.getElem?_toArray, List.getElem?_cons_succ, List.getElem?_cons_zero]; rfl) (by kernel_rfl) (by kernel_rfl) (by kernel_rfl) (by kernel_rfl) (by exact fun _ _ _ h => h) (Or.inl ⟨by rfl, ?_⟩) (by exact hM.out.only) ?_
 rotate_left
 ·intro w9 hSw
  go_simp
  all_goals with_reducible rfl
 try simp only [Act.put, List.setIfInBounds_toArray, List.set_cons_zero, List.set_cons_succ]
 refine wpAnyU_take (i := 10) (v := ?_) (by simp only [List.getElem?_toArray, List.getElem?_cons_succ, List.getElem?_cons_zero]; rfl) (by kernel_rfl) (by kernel_rfl) (by kernel_rfl) (by kernel_rfl) (by exact fun _ _ _ h => h) (Or.inl ⟨by rfl, ?_⟩) (by exact hM.out.only) ?_
 rotate_left
 ·intro w9 hSw
  go_simp
  all_goals with_reducible rfl
 try simp only [Act.put, List.setIfInBounds_toArray, List.set_cons_zero, List.set_cons_succ]
 refine wpAnyU_take (i := 11) (v := ?_) (by simp only [List.getElem?_toArray, List.getElem?_cons_succ, List.getElem?_cons_zero]; rfl) (by kernel_rfl) (by kernel_rfl) (by kernel_rfl) (by kernel_rfl) (by exact fun _ _ _ h => h) (Or.inl ⟨by rfl, ?_⟩) (by exact hM.out.only) ?_
 rotate_left
 ·intro w9 hSw
  go_simp
  all_goals with_reducible rfl
 try simp only [Act.put, List.setIfInBounds_toArray, List.set_cons_zero, List.set_cons_succ]
 refine wpAnyU_take (i := 12) (v := ?_) (by simp only [List.getElem?_toArray, List.getElem?_cons_succ, List.getElem?_cons_zero]; rfl) (by kernel_rfl) (by kernel_rfl) (by kernel_rfl) (by kernel_rfl) (by exact fun _ _ _ h => h) (Or.inl ⟨by rfl, ?_⟩) (by exact hM.out.only) ?_
 rotate_left
 ·intro w9 hSw
  go_simp
  all_goals with_reducible rfl
 try simp only [Act.put, List.setIfInBounds_toArray, List.set_cons_zero, List.set_cons_succ]
 refine wpAnyU_take (i := 13) (v := ?_) (by simp only [List.getElem?_toArray, List.getElem?_cons_succ, List.getElem?_cons_zero]; rfl) (by kernel_rfl) (by kernel_rfl) (by kernel_rfl) (by kernel_rfl) (by exact fun _ _ _ h => h) (Or.inl ⟨by rfl, ?_⟩) (by exact hM.out.only) ?_
 rotate_left
 ·intro w9 hSw
  go_simp
  all_goals with_reducible rfl
 try simp only [Act.put, List.setIfInBounds_toArray, List.set_cons_zero, List.set_cons_succ]
 refine wpAnyU_take (i := 14) (v := ?_) (by simp only [List.getElem?_toArray, List.getElem?_cons_succ, List.getElem?_cons_zero]; rfl) (by kernel_rfl) (by kernel_rfl) (by kernel_rfl) (by kernel_rfl) (by exact fun _ _ _ h => h) (Or.inl ⟨by rfl, ?_⟩) (by exact hM.out.only) ?_
 rotate_left
 ·intro w9 hSw
  go_simp
  all_goals with_reducible rfl
 try simp only [Act.put, List.setIfInBounds_toArray, List.set_cons_zero, List.set_cons_succ]
 refine wpAnyU_take (i := 15) (v := ?_) (by simp only [List.getElem?_toArray, List.getElem?_cons_succ, List.getElem?_cons_zero]; rfl) (by kernel_rfl) (by kernel_rfl) (by kernel_rfl) (by kernel_rfl) (by exact fun _ _ _ h => h) (Or.inl ⟨by rfl, ?_⟩) (by exact hM.out.only) ?_
 rotate_left
 ·intro w9 hSw
  go_simp
  all_goals with_reducible rfl
 try simp only [Act.put, List.setIfInBounds_toArray, List.set_cons_zero, List.set_cons_succ]
 refine wpAnyU_ready (rs := [8, 16]) (by kernel_rfl) (by simp) ?_
 refine AllReadyU.cons (by simp only [List.getElem?_toArray, List.getElem?_cons_succ, List.getElem?_cons_zero]; rfl) (fun K hK => ?_) ?_
 ·skip
  go_simp
  replace hM := hide (hM.out.allocI)
  obtain ⟨M1, hM1⟩ : ∃ M1, Hid (M0.alloc (.cells #[.int .i64 q] 3) = M1) := ⟨_, hide rfl⟩
  have hM1s : Hid (M0.heap.size = M0.heap.size) := hide rfl
  rw [hM1.out] at hM ⊢
  refine hK.out _ _ (fun _ => hM.out.only) ?_
  clear hK K
  try simp only [Act.put, List.setIfInBounds_toArray, List.set_cons_zero, List.set_cons_succ]
  refine wpAnyU_ready (rs := [9, 16]) (by kernel_rfl) (by simp) ?_
  refine AllReadyU.cons (by simp only [List.getElem?_toArray, List.getElem?_cons_succ, List.getElem?_cons_zero]; rfl) (fun K hK => ?_) ?_
  ·skip
   (try go_simp)
   go_at_call 88
   have hq1 := hM.out.hI _ rfl
   refine (insert_ints_any gt mt Ct j _ 0 _ [.int .i64 q] _ hM.out.rt hjm hCt (by omega) hq1.2 rfl int_one (by simp [Value.oneCell'])).mono ?_
   intro e M2 hp
   obtain ⟨rfl, hM9⟩ := hM.out.insI hgtU4 nAT hp
   replace hM := hide hM9
   clear hM9 hp hq1
   refine hK.out _ _ (fun _ => hM.out.only) ?_
   clear hK K
   try simp only [Act.put, List.setIfInBounds_toArray, List.set_cons_zero, List.set_cons_succ]
   refine wpAnyU_ready (rs := [16]) (by kernel_rfl) (by simp) ?_
   refine AllReadyU.cons (by simp only [List.getElem?_toArray, List.getElem?_cons_succ, List.getElem?_cons_zero]; rfl) (fun K hK => ?_) AllReadyU.nil
   go_simp
   replace hM := hide (hM.out.allocV)
   obtain ⟨M3, hM3⟩ : ∃ M3, Hid (M2.alloc (.cells #[.int .i64 z.kind, .int .i64 z.num, .int .u64 z.bits] 42) = M3) := ⟨_, hide rfl⟩
   have hM3s : Hid (M2.heap.size = M2.heap.size) := hide rfl
   rw [hM3.out] at hM ⊢
   refine hK.out _ _ (fun _ => hM.out.only) ?_
   clear hK K
   try simp only [Act.put, List.setIfInBounds_toArray, List.set_cons_zero, List.set_cons_succ]
   refine wpAnyU_ready (rs := [17]) (by kernel_rfl) (by simp) ?_
   refine AllReadyU.cons (by simp only [List.getElem?_toArray, List.getElem?_cons_succ, List.getElem?_cons_zero]; rfl) (fun K hK => ?_) AllReadyU.nil
   (try go_simp)
   go_at_call 89
   have hq1 := hM.out.hV _ rfl
   refine (insert_opds_any ga ma Ca j _ 0 _ (oc z) _ hM.out.ra (by have := hmam.out; omega) hCa (by omega) hq1.2 rfl oc_one9 (by simp [oc, Value.oneCell'])).mono ?_
   rintro e M4 ⟨rfl, hra9, ho9⟩
   replace hM : Hid (MvSt U4 M4 ga gt (ma + 1) (mt + 1) Ca Ct q z (((x.args.eraseIdx k).flatMap oc).take (j * 3) ++ oc z ++ ((x.args.eraseIdx k).flatMap oc).drop (j * 3)) (((x.to.eraseIdx k).map fun u => Value.int .i64 u).take (j * 1) ++ [.int .i64 q] ++ ((x.to.eraseIdx k).map fun u => Value.int .i64 u).drop (j * 1)) none none) := hide ⟨hM.out.only.next (Nat.le_refl _) (ho9.more fun b _ hb => .inr hb), row_kept hM.out.rt fun b hb => ho9.block b (row_lt hM.out.rt hb).2.1 (by cases hb; exact Ne.symm nAT), hra9, fun k hk => (by cases hk), fun k hk => (by cases hk)⟩
   have y5 := e54 _ hM.out.only
   have y6 := e64 _ hM.out.only
   have yz5 := z54 _ hM.out.only
   have yz6 := z64 _ hM.out.only
   clear hra9 ho9 hq1
   refine hK.out _ _ (fun _ => hM.out.only) ?_
   clear hK K
   try simp only [Act.put, List.setIfInBounds_toArray, List.set_cons_zero, List.set_cons_succ]
   refine wpAnyU_takeY (i := 18) (v := ?_) (by simp only [List.getElem?_toArray, List.getElem?_cons_succ, List.getElem?_cons_zero]; rfl) (by kernel_rfl) (by kernel_rfl) (by kernel_rfl) (by rfl) (by exact fun _ _ _ h => h) (Or.inl ⟨by rfl, ?_⟩) ?_
   rotate_left
   ·intro w9 hSw
    go_simp
    all_goals with_reducible rfl
   try simp only [Act.put, List.setIfInBounds_toArray, List.set_cons_zero, List.set_cons_succ]
   refine wpAnyU_takeY (i := 19) (v := ?_) (by simp only [List.getElem?_toArray, List.getElem?_cons_succ, List.getElem?_cons_zero]; rfl) (by kernel_rfl) (by kernel_rfl) (by kernel_rfl) (by rfl) (by exact fun _ _ _ h => h) (Or.inl ⟨by rfl, ?_⟩) ?_
   rotate_left
   ·intro w9 hSw
    go_simp
    all_goals with_reducible rfl
   try simp only [Act.put, List.setIfInBounds_toArray, List.set_cons_zero, List.set_cons_succ]
   refine wpAnyU_ready (rs := [20]) (by kernel_rfl) (by simp) ?_
   refine AllReadyU.cons (by simp only [List.getElem?_toArray, List.getElem?_cons_succ, List.getElem?_cons_zero]; rfl) (fun K hK => ?_) AllReadyU.nil
   go_simp
   refine hK.out _ _ (fun h => absurd h (by decide)) ?_
   clear hK K
   try simp only [Act.put, List.setIfInBounds_toArray, List.set_cons_zero, List.set_cons_succ]
   refine wpAnyU_takeY (i := 21) (v := ?_) (by simp only [List.getElem?_toArray, List.getElem?_cons_succ, List.getElem?_cons_zero]; rfl) (by kernel_rfl) (by kernel_rfl) (by kernel_rfl) (by rfl) (by exact fun _ _ _ h => h) (Or.inl ⟨by rfl, ?_⟩) ?_
   rotate_left
   ·intro w9 hSw
    go_simp
    all_goals with_reducible rfl
   try simp only [Act.put, List.setIfInBounds_toArray, List.set_cons_zero, List.set_cons_succ]
   refine wpAnyU_takeY (i := 22) (v := ?_) (by simp only [List.getElem?_toArray, List.getElem?_cons_succ, List.getElem?_cons_zero]; rfl) (by kernel_rfl) (by kernel_rfl) (by kernel_rfl) (by rfl) (by exact fun _ _ _ h => h) (Or.inl ⟨by rfl, ?_⟩) ?_
   rotate_left
   ·intro w9 hSw
    go_simp
    all_goals with_reducible rfl
   try simp only [Act.put, List.setIfInBounds_toArray, List.set_cons_zero, List.set_cons_succ]
   refine wpAnyU_ready (rs := [23]) (by kernel_rfl) (by simp) ?_
   refine AllReadyU.cons (by simp only [List.getElem?_toArray, List.getElem?_cons_succ, List.getElem?_cons_zero]; rfl) (fun K hK => ?_) AllReadyU.nil
   go_simp
   refine hK.out _ _ (fun h => absurd h (by decide)) ?_
   clear hK K
   try simp only [Act.put, List.setIfInBounds_toArray, List.set_cons_zero, List.set_cons_succ]
   refine wpAnyU_done (by kernel_rfl) ?_ _
   replace hM := hM.out
   have hfin := hide (hend.out _ ⟨hM.only, hM.rt, hM.ra, fun k hk => (by cases hk), fun k hk => (by cases hk)⟩)
   replace hM := hide hM
   go_wp2
   try simp only [Exit.inBlock, Exit.then]
   refine bodyPost_ret (results_none rfl _ _ _) rfl ?_
   exact hfin.out
  refine AllReadyU.cons (by simp only [List.getElem?_toArray, List.getElem?_cons_succ, List.getElem?_cons_zero]; rfl) (fun K hK => ?_) ?_
  ·skip
   go_simp
   replace hM := hide (hM.out.allocV)
   obtain ⟨M5, hM5⟩ : ∃ M5, Hid (M1.alloc (.cells #[.int .i64 z.kind, .int .i64 z.num, .int .u64 z.bits] 42) = M5) := ⟨_, hide rfl⟩
   have hM5s : Hid (M1.heap.size = M1.heap.size) := hide rfl
   rw [hM5.out] at hM ⊢
   refine hK.out _ _ (fun _ => hM.out.only) ?_
   clear hK K
   try simp only [Act.put, List.setIfInBounds_toArray, List.set_cons_zero, List.set_cons_succ]
   refine wpAnyU_ready (rs := [9]) (by kernel_rfl) (by simp) ?_
   refine AllReadyU.cons (by simp only [List.getElem?_toArray, List.getElem?_cons_succ, List.getElem?_cons_zero]; rfl) (fun K hK => ?_) AllReadyU.nil
   (try go_simp)
   go_at_call 88
   have hq1 := hM.out.hI _ rfl
   refine (insert_ints_any gt mt Ct j _ 0 _ [.int .i64 q] _ hM.out.rt hjm hCt (by omega) hq1.2 rfl int_one (by simp [Value.oneCell'])).mono ?_
   intro e M6 hp
   obtain ⟨rfl, hM9⟩ := hM.out.insI hgtU4 nAT hp
   replace hM := hide hM9
   clear hM9 hp hq1
   refine hK.out _ _ (fun _ => hM.out.only) ?_
   clear hK K
   try simp only [Act.put, List.setIfInBounds_toArray, List.set_cons_zero, List.set_cons_succ]
   refine wpAnyU_ready (rs := [17]) (by kernel_rfl) (by simp) ?_
   refine AllReadyU.cons (by simp only [List.getElem?_toArray, List.getElem?_cons_succ, List.getElem?_cons_zero]; rfl) (fun K hK => ?_) AllReadyU.nil
   (try go_simp)
   go_at_call 89
   have hq1 := hM.out.hV _ rfl
   refine (insert_opds_any ga ma Ca j _ 0 _ (oc z) _ hM.out.ra (by have := hmam.out; omega) hCa (by omega) hq1.2 rfl oc_one9 (by simp [oc, Value.oneCell'])).mono ?_
   rintro e M7 ⟨rfl, hra9, ho9⟩
   replace hM : Hid (MvSt U4 M7 ga gt (ma + 1) (mt + 1) Ca Ct q z (((x.args.eraseIdx k).flatMap oc).take (j * 3) ++ oc z ++ ((x.args.eraseIdx k).flatMap oc).drop (j * 3)) (((x.to.eraseIdx k).map fun u => Value.int .i64 u).take (j * 1) ++ [.int .i64 q] ++ ((x.to.eraseIdx k).map fun u => Value.int .i64 u).drop (j * 1)) none none) := hide ⟨hM.out.only.next (Nat.le_refl _) (ho9.more fun b _ hb => .inr hb), row_kept hM.out.rt fun b hb => ho9.block b (row_lt hM.out.rt hb).2.1 (by cases hb; exact Ne.symm nAT), hra9, fun k hk => (by cases hk), fun k hk => (by cases hk)⟩
   have y5 := e54 _ hM.out.only
   have y6 := e64 _ hM.out.only
   have yz5 := z54 _ hM.out.only
   have yz6 := z64 _ hM.out.only
   clear hra9 ho9 hq1
   refine hK.out _ _ (fun _ => hM.out.only) ?_
   clear hK K
   try simp only [Act.put, List.setIfInBounds_toArray, List.set_cons_zero, List.set_cons_succ]
   refine wpAnyU_takeY (i := 18) (v := ?_) (by simp only [List.getElem?_toArray, List.getElem?_cons_succ, List.getElem?_cons_zero]; rfl) (by kernel_rfl) (by kernel_rfl) (by kernel_rfl) (by rfl) (by exact fun _ _ _ h => h) (Or.inl ⟨by rfl, ?_⟩) ?_
   rotate_left
   ·intro w9 hSw
    go_simp
    all_goals with_reducible rfl
   try simp only [Act.put, List.setIfInBounds_toArray, List.set_cons_zero, List.set_cons_succ]
   refine wpAnyU_takeY (i := 19) (v := ?_) (by simp only [List.getElem?_toArray, List.getElem?_cons_succ, List.getElem?_cons_zero]; rfl) (by kernel_rfl) (by kernel_rfl) (by kernel_rfl) (by rfl) (by exact fun _ _ _ h => h) (Or.inl ⟨by rfl, ?_⟩) ?_
   rotate_left
   ·intro w9 hSw
    go_simp
    all_goals with_reducible rfl
   try simp only [Act.put, List.setIfInBounds_toArray, List.set_cons_zero, List.set_cons_succ]
   refine wpAnyU_ready (rs := [20]) (by kernel_rfl) (by simp) ?_
   refine AllReadyU.cons (by simp only [List.getElem?_toArray, List.getElem?_cons_succ, List.getElem?_cons_zero]; rfl) (fun K hK => ?_) AllReadyU.nil
   go_simp
   refine hK.out _ _ (fun h => absurd h (by decide)) ?_
   clear hK K
   try simp only [Act.put, List.setIfInBounds_toArray, List.set_cons_zero, List.set_cons_succ]
   refine wpAnyU_takeY (i := 21) (v := ?_) (by simp only [List.getElem?_toArray, List.getElem?_cons_succ, List.getElem?_cons_zero]; rfl) (by kernel_rfl) (by kernel_rfl) (by kernel_rfl) (by rfl) (by exact fun _ _ _ h => h) (Or.inl ⟨by rfl, ?_⟩) ?_
   rotate_left
   ·intro w9 hSw
    go_simp
    all_goals with_reducible rfl
   try simp only [Act.put, List.setIfInBounds_toArray, List.set_cons_zero, List.set_cons_succ]
   refine wpAnyU_takeY (i := 22) (v := ?_) (by simp only [List.getElem?_toArray, List.getElem?_cons_succ, List.getElem?_cons_zero]; rfl) (by kernel_rfl) (by kernel_rfl) (by kernel_rfl) (by rfl) (by exact fun _ _ _ h => h) (Or.inl ⟨by rfl, ?_⟩) ?_
   rotate_left
   ·intro w9 hSw
    go_simp
    all_goals with_reducible rfl
   try simp only [Act.put, List.setIfInBounds_toArray, List.set_cons_zero, List.set_cons_succ]
   refine wpAnyU_ready (rs := [23]) (by kernel_rfl) (by simp) ?_
   refine AllReadyU.cons (by simp only [List.getElem?_toArray, List.getElem?_cons_succ, List.getElem?_cons_zero]; rfl) (fun K hK => ?_) AllReadyU.nil
   go_simp
   refine hK.out _ _ (fun h => absurd h (by decide)) ?_
   clear hK K
   try simp only [Act.put, List.setIfInBounds_toArray, List.set_cons_zero, List.set_cons_succ]
   refine wpAnyU_done (by kernel_rfl) ?_ _
   replace hM := hM.out
   have hfin := hide (hend.out _ ⟨hM.only, hM.rt, hM.ra, fun k hk => (by cases hk), fun k hk => (by cases hk)⟩)
   replace hM := hide hM
   go_wp2
   try simp only [Exit.inBlock, Exit.then]
   refine bodyPost_ret (results_none rfl _ _ _) rfl ?_
   exact hfin.out
  exact AllReadyU.nil
 refine AllReadyU.cons (by simp only [List.getElem?_toArray, List.getElem?_cons_succ, List.getElem?_cons_zero]; rfl) (fun K hK => ?_) ?_
 ·skip
  go_simp
  replace hM := hide (hM.out.allocV)
  obtain ⟨M8, hM8⟩ : ∃ M8, Hid (M0.alloc (.cells #[.int .i64 z.kind, .int .i64 z.num, .int .u64 z.bits] 42) = M8) := ⟨_, hide rfl⟩
  have hM8s : Hid (M0.heap.size = M0.heap.size) := hide rfl
  rw [hM8.out] at hM ⊢
  refine hK.out _ _ (fun _ => hM.out.only) ?_
  clear hK K
  try simp only [Act.put, List.setIfInBounds_toArray, List.set_cons_zero, List.set_cons_succ]
  refine wpAnyU_ready (rs := [8]) (by kernel_rfl) (by simp) ?_
  refine AllReadyU.cons (by simp only [List.getElem?_toArray, List.getElem?_cons_succ, List.getElem?_cons_zero]; rfl) (fun K hK => ?_) AllReadyU.nil
  go_simp
  replace hM := hide (hM.out.allocI)
  obtain ⟨M9, hM9⟩ : ∃ M9, Hid (M8.alloc (.cells #[.int .i64 q] 3) = M9) := ⟨_, hide rfl⟩
  have hM9s : Hid (M8.heap.size = M8.heap.size) := hide rfl
  rw [hM9.out] at hM ⊢
  refine hK.out _ _ (fun _ => hM.out.only) ?_
  clear hK K
  try simp only [Act.put, List.setIfInBounds_toArray, List.set_cons_zero, List.set_cons_succ]
  refine wpAnyU_ready (rs := [9]) (by kernel_rfl) (by simp) ?_
  refine AllReadyU.cons (by simp only [List.getElem?_toArray, List.getElem?_cons_succ, List.getElem?_cons_zero]; rfl) (fun K hK => ?_) AllReadyU.nil
  (try go_simp)
  go_at_call 88
  have hq1 := hM.out.hI _ rfl
  refine (insert_ints_any gt mt Ct j _ 0 _ [.int .i64 q] _ hM.out.rt hjm hCt (by omega) hq1.2 rfl int_one (by simp [Value.oneCell'])).mono ?_
  intro e M10 hp
  obtain ⟨rfl, hM9⟩ := hM.out.insI hgtU4 nAT hp
  replace hM := hide hM9
  clear hM9 hp hq1
  refine hK.out _ _ (fun _ => hM.out.only) ?_
  clear hK K
  try simp only [Act.put, List.setIfInBounds_toArray, List.set_cons_zero, List.set_cons_succ]
  refine wpAnyU_ready (rs := [17]) (by kernel_rfl) (by simp) ?_
  refine AllReadyU.cons (by simp only [List.getElem?_toArray, List.getElem?_cons_succ, List.getElem?_cons_zero]; rfl) (fun K hK => ?_) AllReadyU.nil
  (try go_simp)
  go_at_call 89
  have hq1 := hM.out.hV _ rfl
  refine (insert_opds_any ga ma Ca j _ 0 _ (oc z) _ hM.out.ra (by have := hmam.out; omega) hCa (by omega) hq1.2 rfl oc_one9 (by simp [oc, Value.oneCell'])).mono ?_
  rintro e M11 ⟨rfl, hra9, ho9⟩
  replace hM : Hid (MvSt U4 M11 ga gt (ma + 1) (mt + 1) Ca Ct q z (((x.args.eraseIdx k).flatMap oc).take (j * 3) ++ oc z ++ ((x.args.eraseIdx k).flatMap oc).drop (j * 3)) (((x.to.eraseIdx k).map fun u => Value.int .i64 u).take (j * 1) ++ [.int .i64 q] ++ ((x.to.eraseIdx k).map fun u => Value.int .i64 u).drop (j * 1)) none none) := hide ⟨hM.out.only.next (Nat.le_refl _) (ho9.more fun b _ hb => .inr hb), row_kept hM.out.rt fun b hb => ho9.block b (row_lt hM.out.rt hb).2.1 (by cases hb; exact Ne.symm nAT), hra9, fun k hk => (by cases hk), fun k hk => (by cases hk)⟩
  have y5 := e54 _ hM.out.only
  have y6 := e64 _ hM.out.only
  have yz5 := z54 _ hM.out.only
  have yz6 := z64 _ hM.out.only
  clear hra9 ho9 hq1
  refine hK.out _ _ (fun _ => hM.out.only) ?_
  clear hK K
  try simp only [Act.put, List.setIfInBounds_toArray, List.set_cons_zero, List.set_cons_succ]
  refine wpAnyU_takeY (i := 18) (v := ?_) (by simp only [List.getElem?_toArray, List.getElem?_cons_succ, List.getElem?_cons_zero]; rfl) (by kernel_rfl) (by kernel_rfl) (by kernel_rfl) (by rfl) (by exact fun _ _ _ h => h) (Or.inl ⟨by rfl, ?_⟩) ?_
  rotate_left
  ·intro w9 hSw
   go_simp
   all_goals with_reducible rfl
  try simp only [Act.put, List.setIfInBounds_toArray, List.set_cons_zero, List.set_cons_succ]
  refine wpAnyU_takeY (i := 19) (v := ?_) (by simp only [List.getElem?_toArray, List.getElem?_cons_succ, List.getElem?_cons_zero]; rfl) (by kernel_rfl) (by kernel_rfl) (by kernel_rfl) (by rfl) (by exact fun _ _ _ h => h) (Or.inl ⟨by rfl, ?_⟩) ?_
  rotate_left
  ·intro w9 hSw
   go_simp
   all_goals with_reducible rfl
  try simp only [Act.put, List.setIfInBounds_toArray, List.set_cons_zero, List.set_cons_succ]
  refine wpAnyU_ready (rs := [20]) (by kernel_rfl) (by simp) ?_
  refine AllReadyU.cons (by simp only [List.getElem?_toArray, List.getElem?_cons_succ, List.getElem?_cons_zero]; rfl) (fun K hK => ?_) AllReadyU.nil
  go_simp
  refine hK.out _ _ (fun h => absurd h (by decide)) ?_
  clear hK K
  try simp only [Act.put, List.setIfInBounds_toArray, List.set_cons_zero, List.set_cons_succ]
  refine wpAnyU_takeY (i := 21) (v := ?_) (by simp only [List.getElem?_toArray, List.getElem?_cons_succ, List.getElem?_cons_zero]; rfl) (by kernel_rfl) (by kernel_rfl) (by kernel_rfl) (by rfl) (by exact fun _ _ _ h => h) (Or.inl ⟨by rfl, ?_⟩) ?_
  rotate_left
  ·intro w9 hSw
   go_simp
   all_goals with_reducible rfl
  try simp only [Act.put, List.setIfInBounds_toArray, List.set_cons_zero, List.set_cons_succ]
  refine wpAnyU_takeY (i := 22) (v := ?_) (by simp only [List.getElem?_toArray, List.getElem?_cons_succ, List.getElem?_cons_zero]; rfl) (by kernel_rfl) (by kernel_rfl) (by kernel_rfl) (by rfl) (by exact fun _ _ _ h => h) (Or.inl ⟨by rfl, ?_⟩) ?_
  rotate_left
  ·intro w9 hSw
   go_simp
   all_goals with_reducible rfl
  try simp only [Act.put, List.setIfInBounds_toArray, List.set_cons_zero, List.set_cons_succ]
  refine wpAnyU_ready (rs := [23]) (by kernel_rfl) (by simp) ?_
  refine AllReadyU.cons (by simp only [List.getElem?_toArray, List.getElem?_cons_succ, List.getElem?_cons_zero]; rfl) (fun K hK => ?_) AllReadyU.nil
  go_simp
  refine hK.out _ _ (fun h => absurd h (by decide)) ?_
  clear hK K
  try simp only [Act.put, List.setIfInBounds_toArray, List.set_cons_zero, List.set_cons_succ]
  refine wpAnyU_done (by kernel_rfl) ?_ _
  replace hM := hM.out
  have hfin := hide (hend.out _ ⟨hM.only, hM.rt, hM.ra, fun k hk => (by cases hk), fun k hk => (by cases hk)⟩)
  replace hM := hide hM
  go_wp2
  try simp only [Exit.inBlock, Exit.then]
  refine bodyPost_ret (results_none rfl _ _ _) rfl ?_
  exact hfin.out
 exact AllReadyU.nil
end Go.Proofs.Ytamjcafjdioidaa
