/- Texts of the chain, without what is not wanted: TdA. No condition but sizes. -/
import Derived.WalkKit
import Derived.Deep.Slices
import Derived.Deep.Draws
import Derived.ChangeSame
import Derived.ChangeOld
import Derived.OwnWalk
import Derived.Laws.OwnMore
import Derived.Deep.AppendLies
import Derived.Test.YtamjcafjdioidaaRows
import Derived.ProofKit
import Derived.OpenShut
import Derived.JoinedCond
import Derived.WalkSpells
import Derived.WalkLawsBesides
import Derived.Deep.RegionHeld3
import Derived.Deep.LoopGhost
import Derived.Deep.QuietTactic
import Derived.BigQuiet
import Derived.Deep.DeepCutAuto
import Derived.Deep.CutBlock
import Derived.StillTailTactics
import Derived.Deep.RegionLaw
import Derived.Lib.SliceRun
import Derived.Laws.IdiomCopy
import Derived.Test.YtamjcafjdioidaaUz01
import Derived.Test.YtamjcafjdioidaaUz02
import Derived.Test.YtamjcafjdioidaaUz03
import Derived.Test.YtamjcafjdioidaaUz04
import Derived.Test.YtamjcafjdioidaaUz05
import Derived.Test.YtamjcafjdioidaaUz06
import Derived.Test.YtamjcafjdioidaaUz07
import Derived.Test.YtamjcafjdioidaaUz08
namespace Go.Proofs.Ytamjcafjdioidaa
open Go.RowKit
set_option linter.unusedSimpArgs false
set_option linter.unusedVariables false
theorem oc_one9 {l : List Opd} : ∀ u, u ∈ l.flatMap oc → u.oneCell' = true := by
 intro u hu
 obtain ⟨x, -, hx⟩ := List.mem_flatMap.1 hu
 unfold oc at hx
 simp only [List.mem_cons, List.not_mem_nil, or_false] at hx
 rcases hx with rfl | rfl | rfl <;> rfl
theorem int_one {l : List Int} : ∀ u, u ∈ l.map (fun z => Value.int .i64 z) → u.oneCell' = true := by
 intro u hu
 obtain ⟨x, -, rfl⟩ := List.mem_map.1 hu
 rfl
theorem oc_erase {l : List Opd} {k : Nat} (hk : k < l.length) : (l.eraseIdx k).flatMap oc = (l.flatMap oc).take (k * 3) ++ (l.flatMap oc).drop ((k + 1) * 3) := by
 induction l generalizing k with
 | nil => simp at hk
 | cons a l ih =>
  have h3 : (oc a).length = 3 := rfl
  cases k with
  | zero => 
   rw [List.eraseIdx_cons_zero, List.flatMap_cons, Nat.zero_mul, List.take_zero, List.nil_append, show (0 + 1) * 3 = 3 from rfl, List.drop_left' h3]
  | succ k =>
   have h4 : (k + 1) * 3 = 3 + k * 3 := by omega
   have h5 : (k + 1 + 1) * 3 = 3 + (k + 1) * 3 := by omega
   rw [List.eraseIdx_cons_succ, List.flatMap_cons, List.flatMap_cons, ih (by simpa using hk), h5, h4, ← h3, List.take_length_add_append, List.drop_length_add_append, List.append_assoc]
theorem int_erase {l : List Int} {k : Nat} : (l.eraseIdx k).map (fun z => Value.int .i64 z) = (l.map fun z => Value.int .i64 z).take (k * 1) ++ (l.map fun z => Value.int .i64 z).drop ((k + 1) * 1) := by
 rw [List.eraseIdx_eq_take_drop_succ, List.map_append, List.map_take, List.map_drop, Nat.mul_one, Nat.mul_one]
theorem mem_erase_ok {α : Type} {l : List α} {k : Nat} {x : α} (h : x ∈ l.eraseIdx k) : x ∈ l := List.mem_of_mem_eraseIdx h
set_option maxRecDepth 100000 in
set_option maxHeartbeats 6400000 in
theorem lose_any {w : World} {T : Nat → Prop} {N : Nat} {f : Fun} {c d : Value} (h : MF w T N f c d) (b : Nat) (p : Int) {l : List Ins} (hb : f.blocks[b]? = some l) (hphi : PhiLen l) :
  Calls Try.prog 56 #[.pointer (some ⟨N, 0, none⟩), .int .i64 b, .int .i64 p] w fun e w' => e = .returned (.tuple #[]) ∧ MF w' T N (setBlocks f (f.blocks.set b (loseL p l))) c d ∧ Only T w.heap.size w w' := by
 obtain ⟨xs, ess, hk, hT⟩ := h.tree
 have hbn := (List.getElem?_eq_some_iff.1 hb).1
 obtain ⟨gd, C, rfl, -, hgd⟩ := hk.row.form (by omega)
 obtain ⟨x, es, hx, he, hcd⟩ := hk.row_at hb
 obtain ⟨n, hn⟩ : ∃ n, Hid (n = f.blocks.length) := ⟨_, hide rfl⟩
 have hbn' : b < n := by rw [hn.out]; exact hbn
 have hbi : (b : Int) < (n : Int) := by omega
 obtain ⟨Ax, Cx, hxf⟩ := row_form hcd.row
 subst hxf
 obtain ⟨m, hm⟩ : ∃ m, Hid (m = l.length) := ⟨_, hide rfl⟩
 have hbox := hide h.box
 have c3 := box_cell9 h.box 3 rfl
 have hNlt := h.lt
 have hout := h.out
 have hbc := hk.blk_cell hx
 have hTd : T gd := hT gd (.inl rfl)
 rw [← hn.out] at c3 hk ⊢
 rw [← hm.out] at hbc hx hcd
 have hmb : m ≤ 9223372036854775807 := by rw [hm.out]; exact row_bound hcd.row
 have c3o : ∀ w', Only T w.heap.size w w' → w'.cell? ⟨N, 3, none⟩ = some (.slice (some ⟨gd, 0, none⟩) n C) := on_fact c3 hNlt hout
 have hP : Hid (∀ wr ess', Only T w.heap.size w wr → OwnKd wr 0 (.slice (some ⟨gd, 0, none⟩) n C) (f.blocks.set b (loseL p l)) xs ess' → (∀ k, TB (.slice (some ⟨gd, 0, none⟩) n C) xs ess' k → T k) → MF wr T N (setBlocks f (f.blocks.set b (loseL p l))) c (.slice (some ⟨gd, 0, none⟩) n C) ∧ Only T w.heap.size w wr) := hide (fun wr ess' h1 h2 h3 => by
  rw [hn.out] at h2 h3 ⊢
  exact ⟨h.with_ h1 h2 h3, h1⟩)
 have hk0 : Hid (OwnKd w 0 (.slice (some ⟨gd, 0, none⟩) n C) (f.blocks.set b (mixP p l 0)) xs ess) := hide (by rw [mixP_zero, set_self hb]; exact hk)
 have hT0 : Hid (∀ k, TB (.slice (some ⟨gd, 0, none⟩) n C) xs ess k → T k) := hide (by rw [hn.out]; exact hT)
 have hp0 : Hid (∀ (j : Nat) y, j < 0 → l[j]? = some y → y.op = 25) := hide (fun j y hj => by omega)
 have hon0 : Only T w.heap.size w w := Only.refl _ _ _
 replace h := hide h
 replace hk := hide hk
 replace hT := hide hT
 replace hx := hide hx
 replace he := hide he
 replace hcd := hide hcd
 replace hb := hide hb
 replace hphi := hide hphi
 go_enter Try.func56, Try.ntmps56
 go_wp2
 go_loopw [18] (fun s wr => ∃ (i : Nat) (ess' : List (List (Value × Value))), s = .int .i64 i ∧ i ≤ m ∧ Hid (OwnKd wr 0 (.slice (some ⟨gd, 0, none⟩) n C) (f.blocks.set b (mixP p l i)) xs ess') ∧ Hid (∀ k, TB (.slice (some ⟨gd, 0, none⟩) n C) xs ess' k → T k) ∧ Hid (∀ (j : Nat) y, j < i → l[j]? = some y → y.op = 25) ∧ Only T w.heap.size w wr) (fun s _ => m - (intOf s).toNat)
 case atStart => exact ⟨0, ess, rfl, Nat.zero_le _, hk0, hT0, hp0, hon0⟩
 case round =>
  clear hk0 hT0 hp0 hon0 c3 hbc
  rename World => V
  obtain ⟨i, ess', rfl, hi, hkV, hTV, hph, honV⟩ := hrel
  have hVs := honV.size
  by_cases hlt : i < m
  ·have hii : (i : Int) < (m : Int) := by omega
   obtain ⟨ins, hins⟩ := get_ex (l := l) (k := i) (by rw [← hm.out]; exact hlt)
   have hbset : (f.blocks.set b (mixP p l i))[b]? = some (mixP p l i) := by rw [List.getElem?_set_self (by rw [← hn.out]; exact hbn')]
   obtain ⟨x', es', hx', he', hcdV⟩ := hkV.out.row_at hbset
   rw [hx.out] at hx'
   cases hx'
   obtain ⟨gc, CX9, hgcf, -, hgcl⟩ := hcdV.row.form (by rw [mixP_len, ← hm.out]; omega)
   rw [mixP_len, ← hm.out] at hgcf
   cases hgcf
   have hmi : (mixP p l i)[i]? = some ins := mixP_at hins.out
   obtain ⟨ca, ct, hei, hva, hvt, hok⟩ := hcdV.ins_at hmi
   obtain ⟨Aa, Ca, hca⟩ := row_form hva.row
   obtain ⟨At, Ct, hct⟩ := row_form hvt.row
   subst hca hct
   have hgcT : T gc := hTV.out gc (.inr (.inl ⟨_, List.mem_of_getElem? hx.out, rfl⟩))
   obtain ⟨na, hna⟩ : ∃ na, Hid (na = ins.args.length) := ⟨_, hide rfl⟩
   obtain ⟨nt, hnt⟩ : ∃ nt, Hid (nt = ins.to.length) := ⟨_, hide rfl⟩
   rw [← hna.out, ← hnt.out] at hei
   rw [← hna.out] at hva
   rw [← hnt.out] at hvt
   have d3 := c3o V honV
   have db := hkV.out.blk_cell hx.out
   have e0 := hcdV.cell_at hmi hei (j := 0) rfl
   have e5 := hcdV.cell_at hmi hei (j := 5) rfl
   have e6 := hcdV.cell_at hmi hei (j := 6) rfl
   rw [Nat.add_zero] at e0
   have f0 : V.frozen? ⟨gc, i * 7 + 5, none⟩ = false := row_free hcdV.row _
   have f1 : V.frozen? ⟨gc, i * 7 + 6, none⟩ = false := row_free hcdV.row _
   have hcin : Hid (OwnCd V 0 (.slice (some ⟨gc, 0, none⟩) m Cx) (mixP p l i) es') := hide hcdV
   replace hei := hide hei
   replace he' := hide he'
   replace hbset := hide hbset
   replace hmi := hide hmi
   replace hva := hide hva
   replace hvt := hide hvt
   replace hok := hide hok
   replace hcdV := hide hcdV
   by_cases h25 : ins.op = 25
   ·have g1 : (ins.op != 25) = false := by rw [h25]; rfl
    have hph' : Hid (∀ (j : Nat) y, j < i + 1 → l[j]? = some y → y.op = 25) := hide (fun j y hj hy => by
     rcases Nat.lt_succ_iff_lt_or_eq.1 hj with h1 | h1
     ·exact hph.out j y h1 hy
     ·subst h1
      rw [hins.out] at hy
      cases hy
      exact h25)
    have hlen : Hid (na = nt) := hide (by rw [hna.out, hnt.out]; exact hphi.out ins (List.mem_of_getElem? hins.out) h25)
    replace h25 := hide h25
    have e6b := be_fact e6 hgcl
    have e5b := be_fact e5 hgcl
    have cI : Hid (Calls Try.prog 83 #[.slice At nt Ct, .int .i64 p] V (fun e w' => e = .returned (.int .i64 (idxI ins.to p)) ∧ Below V.heap.size V w')) := hide (index2_any _ ins.to p V V.heap.size (Nat.le_refl _) hvt.out.rep)
    have hgcl' := hgcl
    go_wp2_with (fail)
    refine cI.out.mono ?_
    rintro e V1 ⟨rfl, hb1⟩
    by_cases hpm : p ∈ ins.to
    ·obtain ⟨k, hkd⟩ : ∃ k, Hid (k = ins.to.idxOf p) := ⟨_, hide rfl⟩
     have hix : idxI ins.to p = (k : Int) := by rw [idxI, if_pos hpm, hkd.out]
     rw [hix]
     have hknt : k < nt := by rw [hkd.out, hnt.out]; exact List.idxOf_lt_length_of_mem hpm
     have hkna : k < na := by have := hlen.out; omega
     obtain ⟨kj, hkj⟩ : ∃ kj, Hid (kj = k + 1) := ⟨_, hide rfl⟩
     have hnt64 : nt ≤ 9223372036854775807 := by
      rcases hvt.out.row.2 with ⟨e, h0⟩ | ⟨g, cap, cur, e, -, -, h1, h2, -⟩
      ·have := hnt.out; omega
      ·unfold maxLen at h2; have := hnt.out; omega
     have hsum : IntKind.i64.wrap ((k : Int) + 1) = (kj : Int) := by rw [IntKind.wrap_i64]; have := hkj.out; omega
     have hge : decide ((k : Int) ≥ 0) = true := decide_eq_true (by omega)
     have hV1s := hb1.size
     obtain ⟨gt, CT9, htf, -, hgtl⟩ := hvt.out.row.form (by rw [← hnt.out]; omega)
     rw [← hnt.out] at htf
     cases htf
     obtain ⟨ga, CA9, haf, -, hgal⟩ := hva.out.row.form (by rw [← hna.out]; omega)
     rw [← hna.out] at haf
     cases haf
     have tyA := (row_lt hva.out.row rfl).2.2
     have tyT := (row_lt hvt.out.row rfl).2.2
     have tyC := (row_lt hcin.out.row rfl).2.2
     have nAT : ga ≠ gt := ty_ne tyA tyT (by decide)
     have nCA : gc ≠ ga := ty_ne tyC tyA (by decide)
     have nCT : gc ≠ gt := ty_ne tyC tyT (by decide)
     have ngc : ¬ (gc = gt ∨ gc = ga) := by omega
     have hTa : T ga := hTV.out ga (.inr (.inr ⟨es', _, List.mem_of_getElem? he'.out, List.mem_of_getElem? hei.out, .inl rfl⟩))
     have hTt : T gt := hTV.out gt (.inr (.inr ⟨es', _, List.mem_of_getElem? he'.out, List.mem_of_getElem? hei.out, .inr rfl⟩))
     have hra : Hid (V1.ownsRow 0 42 3 (.slice (some ⟨ga, 0, none⟩) na Ca) na (ins.args.flatMap oc)) := hide (by
      have := row_kept hva.out.row (w' := V1) fun k hk => hb1.block k (row_lt hva.out.row hk).2.1
      rwa [← hna.out] at this)
     have hrt : Hid (V1.ownsRow 0 3 1 (.slice (some ⟨gt, 0, none⟩) nt Ct) nt (ins.to.map fun z => Value.int .i64 z)) := hide (by
      have := row_kept hvt.out.row (w' := V1) fun k hk => hb1.block k (row_lt hvt.out.row hk).2.1
      rwa [← hnt.out] at this)
     have hcV1 := hide (hcin.out.kept (w' := V1) fun k _ hk => hb1.block k hk)
     have hkV1 := hide (hkV.out.kept (w' := V1) fun k _ hk => hb1.block k hk)
     have hgc1 : gc < V1.heap.size := by omega
     have s5 : ∀ w', Only (fun q => q = gt ∨ q = ga) V1.heap.size V1 w' → w'.cell? ⟨gc, i * 7 + 5, none⟩ = some (.slice (some ⟨ga, 0, none⟩) na Ca) := on_fact (e5b V1 hb1) hgc1 (by omega)
     have s6 : ∀ w', Only (fun q => q = gt ∨ q = ga) V1.heap.size V1 w' → w'.cell? ⟨gc, i * 7 + 6, none⟩ = some (.slice (some ⟨gt, 0, none⟩) nt Ct) := on_fact (e6b V1 hb1) hgc1 (by omega)
     have z5 : ∀ w', Only (fun q => q = gt ∨ q = ga) V1.heap.size V1 w' → w'.frozen? ⟨gc, i * 7 + 5, none⟩ = false := on_free (row_free hcV1.out.row _) hgc1 (by omega)
     have z6 : ∀ w', Only (fun q => q = gt ∨ q = ga) V1.heap.size V1 w' → w'.frozen? ⟨gc, i * 7 + 6, none⟩ = false := on_free (row_free hcV1.out.row _) hgc1 (by omega)
     have hon1 := hide (honV.next (Nat.le_refl _) (Only.of_below hb1))
     replace hb1 := hide hb1
     replace tyA := hide tyA
     replace tyT := hide tyT
     replace tyC := hide tyC
     replace hpm := hide hpm
     clear e0 e5 e6 e5b e6b f0 f1 d3 db
     go_upto_region 7 with (fail)
     refine wp_region_U (S := fun u => Only (fun q => q = gt ∨ q = ga) V1.heap.size V1 u) (T := fun j => decide (j < 18) && decide (j ≠ 1)) (by kernel_rfl) ?_
     obtain ⟨U0, hU0⟩ : ∃ U0, Hid (V1.drew = U0) := ⟨_, hide rfl⟩
     have hS0 : Hid (Only (fun q => q = gt ∨ q = ga) V1.heap.size V1 U0) := hide (by rw [← hU0.out]; exact (Only.refl _ _ _).drew)
     have hrt0 : Hid (U0.ownsRow 0 3 1 (.slice (some ⟨gt, 0, none⟩) nt Ct) nt (ins.to.map fun z => Value.int .i64 z)) := hide (by rw [← hU0.out]; exact hrt.out)
     have hra0 : Hid (U0.ownsRow 0 42 3 (.slice (some ⟨ga, 0, none⟩) na Ca) na (ins.args.flatMap oc)) := hide (by rw [← hU0.out]; exact hra.out)
     rw [hU0.out]
     refine wpAnyU_takeY (i := 1) (v := ?_) (by simp only [List.getElem?_toArray, List.getElem?_cons_succ, List.getElem?_cons_zero]; rfl) (by kernel_rfl) (by kernel_rfl) (by kernel_rfl) (by rfl) (by exact fun _ _ _ h => h) (Or.inl ⟨by rfl, ?_⟩) ?_
     rotate_left
     ·intro w9 hSw
      go_simp
      all_goals with_reducible rfl
     try simp only [Act.put, List.setIfInBounds_toArray, List.set_cons_zero, List.set_cons_succ]
     refine wpAnyU_take (i := 0) (v := ?_) (by simp only [List.getElem?_toArray, List.getElem?_cons_succ, List.getElem?_cons_zero]; rfl) (by kernel_rfl) (by kernel_rfl) (by kernel_rfl) (by kernel_rfl) (by exact fun _ _ _ h => h) (Or.inl ⟨by rfl, ?_⟩) (by exact hS0.out) ?_
     rotate_left
     ·intro w9 hSw
      go_simp
      all_goals with_reducible rfl
     try simp only [Act.put, List.setIfInBounds_toArray, List.set_cons_zero, List.set_cons_succ]
     refine wpAnyU_take (i := 2) (v := ?_) (by simp only [List.getElem?_toArray, List.getElem?_cons_succ, List.getElem?_cons_zero]; rfl) (by kernel_rfl) (by kernel_rfl) (by kernel_rfl) (by kernel_rfl) (by exact fun _ _ _ h => h) (Or.inl ⟨by rfl, ?_⟩) (by exact hS0.out) ?_
     rotate_left
     ·intro w9 hSw
      go_simp
      all_goals with_reducible rfl
     try simp only [Act.put, List.setIfInBounds_toArray, List.set_cons_zero, List.set_cons_succ]
     refine wpAnyU_take (i := 3) (v := ?_) (by simp only [List.getElem?_toArray, List.getElem?_cons_succ, List.getElem?_cons_zero]; rfl) (by kernel_rfl) (by kernel_rfl) (by kernel_rfl) (by kernel_rfl) (by exact fun _ _ _ h => h) (Or.inl ⟨by rfl, ?_⟩) (by exact hS0.out) ?_
     rotate_left
     ·intro w9 hSw
      go_simp
      all_goals with_reducible rfl
     try simp only [Act.put, List.setIfInBounds_toArray, List.set_cons_zero, List.set_cons_succ]
     refine wpAnyU_take (i := 4) (v := ?_) (by simp only [List.getElem?_toArray, List.getElem?_cons_succ, List.getElem?_cons_zero]; rfl) (by kernel_rfl) (by kernel_rfl) (by kernel_rfl) (by kernel_rfl) (by exact fun _ _ _ h => h) (Or.inl ⟨by rfl, ?_⟩) (by exact hS0.out) ?_
     rotate_left
     ·intro w9 hSw
      go_simp
      all_goals with_reducible rfl
     try simp only [Act.put, List.setIfInBounds_toArray, List.set_cons_zero, List.set_cons_succ]
     refine wpAnyU_take (i := 5) (v := ?_) (by simp only [List.getElem?_toArray, List.getElem?_cons_succ, List.getElem?_cons_zero]; rfl) (by kernel_rfl) (by kernel_rfl) (by kernel_rfl) (by kernel_rfl) (by exact fun _ _ _ h => h) (Or.inl ⟨by rfl, ?_⟩) (by exact hS0.out) ?_
     rotate_left
     ·intro w9 hSw
      go_simp
      all_goals with_reducible rfl
     try simp only [Act.put, List.setIfInBounds_toArray, List.set_cons_zero, List.set_cons_succ]
     refine wpAnyU_take (i := 6) (v := ?_) (by simp only [List.getElem?_toArray, List.getElem?_cons_succ, List.getElem?_cons_zero]; rfl) (by kernel_rfl) (by kernel_rfl) (by kernel_rfl) (by kernel_rfl) (by exact fun _ _ _ h => h) (Or.inl ⟨by rfl, ?_⟩) (by exact hS0.out) ?_
     rotate_left
     ·intro w9 hSw
      go_simp
      all_goals with_reducible rfl
     try simp only [Act.put, List.setIfInBounds_toArray, List.set_cons_zero, List.set_cons_succ]
     refine wpAnyU_take (i := 7) (v := ?_) (by simp only [List.getElem?_toArray, List.getElem?_cons_succ, List.getElem?_cons_zero]; rfl) (by kernel_rfl) (by kernel_rfl) (by kernel_rfl) (by kernel_rfl) (by exact fun _ _ _ h => h) (Or.inl ⟨by rfl, ?_⟩) (by exact hS0.out) ?_
     rotate_left
     ·intro w9 hSw
      go_simp
      all_goals with_reducible rfl
     try simp only [Act.put, List.setIfInBounds_toArray, List.set_cons_zero, List.set_cons_succ]
     refine wpAnyU_take (i := 8) (v := ?_) (by simp only [List.getElem?_toArray, List.getElem?_cons_succ, List.getElem?_cons_zero]; rfl) (by kernel_rfl) (by kernel_rfl) (by kernel_rfl) (by kernel_rfl) (by exact fun _ _ _ h => h) (Or.inl ⟨by rfl, ?_⟩) (by exact hS0.out) ?_
     rotate_left
     ·intro w9 hSw
      go_simp
      all_goals with_reducible rfl
     try simp only [Act.put, List.setIfInBounds_toArray, List.set_cons_zero, List.set_cons_succ]
     refine wpAnyU_take (i := 10) (v := ?_) (by simp only [List.getElem?_toArray, List.getElem?_cons_succ, List.getElem?_cons_zero]; rfl) (by kernel_rfl) (by kernel_rfl) (by kernel_rfl) (by kernel_rfl) (by exact fun _ _ _ h => h) (Or.inl ⟨by rfl, ?_⟩) (by exact hS0.out) ?_
     rotate_left
     ·intro w9 hSw
      go_simp
      all_goals with_reducible rfl
     try simp only [Act.put, List.setIfInBounds_toArray, List.set_cons_zero, List.set_cons_succ]
     refine wpAnyU_take (i := 11) (v := ?_) (by simp only [List.getElem?_toArray, List.getElem?_cons_succ, List.getElem?_cons_zero]; rfl) (by kernel_rfl) (by kernel_rfl) (by kernel_rfl) (by kernel_rfl) (by exact fun _ _ _ h => h) (Or.inl ⟨by rfl, ?_⟩) (by exact hS0.out) ?_
     rotate_left
     ·intro w9 hSw
      go_simp
      all_goals with_reducible rfl
     try simp only [Act.put, List.setIfInBounds_toArray, List.set_cons_zero, List.set_cons_succ]
     refine wpAnyU_take (i := 12) (v := ?_) (by simp only [List.getElem?_toArray, List.getElem?_cons_succ, List.getElem?_cons_zero]; rfl) (by kernel_rfl) (by kernel_rfl) (by kernel_rfl) (by kernel_rfl) (by exact fun _ _ _ h => h) (Or.inl ⟨by rfl, ?_⟩) (by exact hS0.out) ?_
     rotate_left
     ·intro w9 hSw
      go_simp
      all_goals with_reducible rfl
     try simp only [Act.put, List.setIfInBounds_toArray, List.set_cons_zero, List.set_cons_succ]
     refine wpAnyU_take (i := 13) (v := ?_) (by simp only [List.getElem?_toArray, List.getElem?_cons_succ, List.getElem?_cons_zero]; rfl) (by kernel_rfl) (by kernel_rfl) (by kernel_rfl) (by kernel_rfl) (by exact fun _ _ _ h => h) (Or.inl ⟨by rfl, ?_⟩) (by exact hS0.out) ?_
     rotate_left
     ·intro w9 hSw
      go_simp
      all_goals with_reducible rfl
     try simp only [Act.put, List.setIfInBounds_toArray, List.set_cons_zero, List.set_cons_succ]
     refine wpAnyU_take (i := 14) (v := ?_) (by simp only [List.getElem?_toArray, List.getElem?_cons_succ, List.getElem?_cons_zero]; rfl) (by kernel_rfl) (by kernel_rfl) (by kernel_rfl) (by kernel_rfl) (by exact fun _ _ _ h => h) (Or.inl ⟨by rfl, ?_⟩) (by exact hS0.out) ?_
     rotate_left
     ·intro w9 hSw
      go_simp
      all_goals with_reducible rfl
     try simp only [Act.put, List.setIfInBounds_toArray, List.set_cons_zero, List.set_cons_succ]
     refine wpAnyU_take (i := 15) (v := ?_) (by simp only [List.getElem?_toArray, List.getElem?_cons_succ, List.getElem?_cons_zero]; rfl) (by kernel_rfl) (by kernel_rfl) (by kernel_rfl) (by kernel_rfl) (by exact fun _ _ _ h => h) (Or.inl ⟨by rfl, ?_⟩) (by exact hS0.out) ?_
     rotate_left
     ·intro w9 hSw
      go_simp
      all_goals with_reducible rfl
     try simp only [Act.put, List.setIfInBounds_toArray, List.set_cons_zero, List.set_cons_succ]
     refine wpAnyU_take (i := 16) (v := ?_) (by simp only [List.getElem?_toArray, List.getElem?_cons_succ, List.getElem?_cons_zero]; rfl) (by kernel_rfl) (by kernel_rfl) (by kernel_rfl) (by kernel_rfl) (by exact fun _ _ _ h => h) (Or.inl ⟨by rfl, ?_⟩) (by exact hS0.out) ?_
     rotate_left
     ·intro w9 hSw
      go_simp
      all_goals with_reducible rfl
     try simp only [Act.put, List.setIfInBounds_toArray, List.set_cons_zero, List.set_cons_succ]
     refine wpAnyU_ready (rs := [9]) (by kernel_rfl) (by simp) ?_
     refine AllReadyU.cons (by simp only [List.getElem?_toArray, List.getElem?_cons_succ, List.getElem?_cons_zero]; rfl) (fun K hK => ?_) AllReadyU.nil
     (try go_simp)
     go_at_call 84
     refine (delete_ints gt nt Ct k 0 _ U0 hrt0.out kj hkj.out hknt int_one).mono ?_
     rintro e U1 ⟨rfl, hr1, ho1⟩
     have hS1 : Hid (Only (fun q => q = gt ∨ q = ga) V1.heap.size V1 U1) := hide (hS0.out.next (Nat.le_refl _) (ho1.more fun q _ hq => Or.inl hq))
     have hra1 : Hid (U1.ownsRow 0 42 3 (.slice (some ⟨ga, 0, none⟩) na Ca) na (ins.args.flatMap oc)) := hide (row_kept hra0.out fun q hq => ho1.block q (row_lt hra0.out hq).2.1 (by cases hq; exact nAT))
     replace hr1 := hide hr1
     clear ho1
     refine hK.out _ _ (fun _ => hS1.out) ?_
     clear hK K
     try simp only [Act.put, List.setIfInBounds_toArray, List.set_cons_zero, List.set_cons_succ]
     refine wpAnyU_ready (rs := [17]) (by kernel_rfl) (by simp) ?_
     refine AllReadyU.cons (by simp only [List.getElem?_toArray, List.getElem?_cons_succ, List.getElem?_cons_zero]; rfl) (fun K hK => ?_) AllReadyU.nil
     (try go_simp)
     go_at_call 85
     refine (delete_opds ga na Ca k 0 _ U1 hra1.out kj hkj.out hkna oc_one9).mono ?_
     rintro e U2 ⟨rfl, hr2, ho2⟩
     have hS2 : Hid (Only (fun q => q = gt ∨ q = ga) V1.heap.size V1 U2) := hide (hS1.out.next (Nat.le_refl _) (ho2.more fun q _ hq => Or.inr hq))
     have hrt2 := hide (row_kept hr1.out fun q hq => ho2.block q (row_lt hr1.out hq).2.1 (by cases hq; exact fun e => nAT e.symm))
     replace hr2 := hide hr2
     have y5 := s5 U2 hS2.out
     have y6 := s6 U2 hS2.out
     have yz5 := z5 U2 hS2.out
     have yz6 := z6 U2 hS2.out
     clear ho2
     refine hK.out _ _ (fun _ => hS2.out) ?_
     clear hK K
     try simp only [Act.put, List.setIfInBounds_toArray, List.set_cons_zero, List.set_cons_succ]
     refine wpAnyU_takeY (i := 18) (v := ?_) (by simp only [List.getElem?_toArray, List.getElem?_cons_succ, List.getElem?_cons_zero]; rfl) (by kernel_rfl) (by kernel_rfl) (by kernel_rfl) (by rfl) (by exact fun _ _ _ h => h) (Or.inl ⟨by rfl, ?_⟩) ?_
     rotate_left
     ·intro w9 hSw
      go_simp
      all_goals with_reducible rfl
     try simp only [Act.put, List.setIfInBounds_toArray, List.set_cons_zero, List.set_cons_succ]
     refine wpAnyU_takeY (i := 19) (v := ?_) (by simp only [List.getElem?_toArray, List.getElem?_cons_succ, List.getElem?_cons_zero]; rfl) (by kernel_rfl) (by kernel_rfl) (by kernel_rfl) (by rfl) (by exact fun _ _ _ h => h) (Or.inl ⟨by rfl, ?_⟩) ?_
     rotate_left
     ·intro w9 hSw
      go_simp
      all_goals with_reducible rfl
     try simp only [Act.put, List.setIfInBounds_toArray, List.set_cons_zero, List.set_cons_succ]
     refine wpAnyU_ready (rs := [20]) (by kernel_rfl) (by simp) ?_
     refine AllReadyU.cons (by simp only [List.getElem?_toArray, List.getElem?_cons_succ, List.getElem?_cons_zero]; rfl) (fun K hK => ?_) AllReadyU.nil
     go_simp
     refine hK.out _ _ (fun h => absurd h (by decide)) ?_
     clear hK K
     try simp only [Act.put, List.setIfInBounds_toArray, List.set_cons_zero, List.set_cons_succ]
     refine wpAnyU_takeY (i := 21) (v := ?_) (by simp only [List.getElem?_toArray, List.getElem?_cons_succ, List.getElem?_cons_zero]; rfl) (by kernel_rfl) (by kernel_rfl) (by kernel_rfl) (by rfl) (by exact fun _ _ _ h => h) (Or.inl ⟨by rfl, ?_⟩) ?_
     rotate_left
     ·intro w9 hSw
      go_simp
      all_goals with_reducible rfl
     try simp only [Act.put, List.setIfInBounds_toArray, List.set_cons_zero, List.set_cons_succ]
     refine wpAnyU_takeY (i := 22) (v := ?_) (by simp only [List.getElem?_toArray, List.getElem?_cons_succ, List.getElem?_cons_zero]; rfl) (by kernel_rfl) (by kernel_rfl) (by kernel_rfl) (by rfl) (by exact fun _ _ _ h => h) (Or.inl ⟨by rfl, ?_⟩) ?_
     rotate_left
     ·intro w9 hSw
      go_simp
      all_goals with_reducible rfl
     try simp only [Act.put, List.setIfInBounds_toArray, List.set_cons_zero, List.set_cons_succ]
     refine wpAnyU_ready (rs := [23]) (by kernel_rfl) (by simp) ?_
     refine AllReadyU.cons (by simp only [List.getElem?_toArray, List.getElem?_cons_succ, List.getElem?_cons_zero]; rfl) (fun K hK => ?_) AllReadyU.nil
     go_simp
     refine hK.out _ _ (fun h => absurd h (by decide)) ?_
     clear hK K
     try simp only [Act.put, List.setIfInBounds_toArray, List.set_cons_zero, List.set_cons_succ]
     refine wpAnyU_done (by kernel_rfl) ?_ _
     obtain ⟨U3, hU3⟩ : ∃ U3, Hid ((U2.setCell ⟨gc, i * 7 + 6, none⟩ (.slice (some ⟨gt, 0, none⟩) (nt - 1) Ct)).setCell ⟨gc, i * 7 + 5, none⟩ (.slice (some ⟨ga, 0, none⟩) (na - 1) Ca) = U3) := ⟨_, hide rfl⟩
     have hmix := mixP_next (p := p) hins.out
     have hdrop : dropP p ins = ⟨ins.op, ins.reg, ins.ty, ins.num, ins.flags, ins.args.eraseIdx k, ins.to.eraseIdx k⟩ := by rw [dropP, if_pos hpm.out, ← hkd.out]
     have hrow3 : U3.ownsRow 0 39 7 (.slice (some ⟨gc, 0, none⟩) m Cx) m (cellsOf ((mixP p l i).set i (dropP p ins)) (es'.set i (.slice (some ⟨ga, 0, none⟩) (na - 1) Ca, .slice (some ⟨gt, 0, none⟩) (nt - 1) Ct))) := by
      have h1 : U2.ownsRow 0 39 7 (.slice (some ⟨gc, 0, none⟩) m Cx) m (cellsOf (mixP p l i) es') := by
       have h9 := row_kept hcV1.out.row (w' := U2) fun q hq => hS2.out.block q (row_lt hcV1.out.row hq).2.1 (by cases hq; exact ngc)
       rwa [mixP_len, ← hm.out] at h9
      have h2 := (World.ownsRow.stored (World.ownsRow.stored h1 (i * 7 + 6) (.slice (some ⟨gt, 0, none⟩) (nt - 1) Ct)).1 (i * 7 + 5) (.slice (some ⟨ga, 0, none⟩) (na - 1) Ca)).1
      rw [hU3.out] at h2
      rw [cells_set (j := 6) (x' := ⟨ins.op, ins.reg, ins.ty, ins.num, ins.flags, ins.args, ins.to.eraseIdx k⟩) (e' := (.slice (some ⟨ga, 0, none⟩) na Ca, .slice (some ⟨gt, 0, none⟩) (nt - 1) Ct)) hmi.out hei.out hcin.out.len (by omega) rfl] at h2
      rw [cells_set (i := i) (j := 5) (x := ⟨ins.op, ins.reg, ins.ty, ins.num, ins.flags, ins.args, ins.to.eraseIdx k⟩) (e := (.slice (some ⟨ga, 0, none⟩) na Ca, .slice (some ⟨gt, 0, none⟩) (nt - 1) Ct)) (x' := dropP p ins) (e' := (.slice (some ⟨ga, 0, none⟩) (na - 1) Ca, .slice (some ⟨gt, 0, none⟩) (nt - 1) Ct)) (by rw [List.getElem?_set_self (by rw [mixP_len, ← hm.out]; exact hlt)]) (by rw [List.getElem?_set_self (by rw [hcin.out.len, mixP_len, ← hm.out]; exact hlt)]) (by rw [List.length_set, List.length_set]; exact hcin.out.len) (by omega) (by rw [hdrop]; rfl), List.set_set, List.set_set] at h2
      exact h2
     have hkeep3 : ∀ q, q < V1.heap.size → q ≠ gc → q ≠ ga → q ≠ gt → U3.heap[q]? = V1.heap[q]? := fun q h1 h2 h3 h4 => by
      rw [← hU3.out]
      have a1 := Below.heap_setCell (U2.setCell ⟨gc, i * 7 + 6, none⟩ (.slice (some ⟨gt, 0, none⟩) (nt - 1) Ct)) ⟨gc, i * 7 + 5, none⟩ (.slice (some ⟨ga, 0, none⟩) (na - 1) Ca) q h2
      have a2 := Below.heap_setCell U2 ⟨gc, i * 7 + 6, none⟩ (.slice (some ⟨gt, 0, none⟩) (nt - 1) Ct) q h2
      exact a1.trans (a2.trans (hS2.out.block q h1 (by omega)))
     have hin3 : ∀ q, q ≠ gc → U3.heap[q]? = U2.heap[q]? := fun q h2 => by
      rw [← hU3.out]
      exact (Below.heap_setCell (U2.setCell ⟨gc, i * 7 + 6, none⟩ (.slice (some ⟨gt, 0, none⟩) (nt - 1) Ct)) ⟨gc, i * 7 + 5, none⟩ (.slice (some ⟨ga, 0, none⟩) (na - 1) Ca) q h2).trans (Below.heap_setCell U2 ⟨gc, i * 7 + 6, none⟩ (.slice (some ⟨gt, 0, none⟩) (nt - 1) Ct) q h2)
     have hV3 : OwnV U3 0 (.slice (some ⟨ga, 0, none⟩) (na - 1) Ca) (dropP p ins).args := by
      rw [hdrop]
      refine ⟨?_, fun z hz => hva.out.ok z (mem_erase_ok hz)⟩
      have h1 := row_kept hr2.out (w' := U3) fun q hq => hin3 q (by cases hq; exact fun e => nCA e.symm)
      have hl : (ins.args.eraseIdx k).length = na - 1 := by rw [List.length_eraseIdx, if_pos (by rw [← hna.out]; exact hkna), ← hna.out]
      show U3.ownsRow 0 42 3 (.slice (some ⟨ga, 0, none⟩) (na - 1) Ca) (ins.args.eraseIdx k).length _
      rw [hl, oc_erase (by rw [← hna.out]; exact hkna)]
      refine row_prefix h1 ?_ (by omega)
      rw [← oc_erase (by rw [← hna.out]; exact hkna), oc_len, hl]
     have hI3 : OwnI U3 0 (.slice (some ⟨gt, 0, none⟩) (nt - 1) Ct) (dropP p ins).to := by
      rw [hdrop]
      refine ⟨?_, fun z hz => hvt.out.ok z (mem_erase_ok hz)⟩
      have h1 := row_kept hrt2.out (w' := U3) fun q hq => hin3 q (by cases hq; exact fun e => nCT e.symm)
      have hl : (ins.to.eraseIdx k).length = nt - 1 := by rw [List.length_eraseIdx, if_pos (by rw [← hnt.out]; exact hknt), ← hnt.out]
      show U3.ownsRow 0 3 1 (.slice (some ⟨gt, 0, none⟩) (nt - 1) Ct) (ins.to.eraseIdx k).length _
      rw [hl, int_erase]
      refine row_prefix h1 ?_ (by omega)
      rw [← int_erase, List.length_map, hl, Nat.mul_one]
     have hok3 : InsOk (dropP p ins) := by rw [hdrop]; exact hok.out
     have hk3 := hkV1.out.put_ins (w' := U3) hbset.out hx.out he'.out hmi.out hei.out hrow3 hV3 hI3 hok3 (fun q hq => .inl hq) (fun q hq => .inl hq) (fun q h1 h2 h3 h4 => hkeep3 q h1 h2 (fun e => h3 (by rw [e]; rfl)) (fun e => h4 (by rw [e]; rfl)))
     rw [List.set_set, hmix] at hk3
     have hT3 : Hid (∀ q, TB (.slice (some ⟨gd, 0, none⟩) n C) xs (ess'.set b (es'.set i (.slice (some ⟨ga, 0, none⟩) (na - 1) Ca, .slice (some ⟨gt, 0, none⟩) (nt - 1) Ct))) q → T q) := hide (fun q hq => by
      rcases hq with h1 | h1 | ⟨a, z, h1, h2, h3⟩
      ·exact hTV.out q (.inl h1)
      ·exact hTV.out q (.inr (.inl h1))
      ·rcases List.mem_or_eq_of_mem_set h1 with h4 | h4
       ·exact hTV.out q (.inr (.inr ⟨a, z, h4, h2, h3⟩))
       ·subst h4
        rcases List.mem_or_eq_of_mem_set h2 with h5 | h5
        ·exact hTV.out q (.inr (.inr ⟨es', z, List.mem_of_getElem? he'.out, h5, h3⟩))
        ·subst h5
         rcases h3 with h3 | h3
         ·cases h3; exact hTa
         ·cases h3; exact hTt)
     have hon3 : Only T w.heap.size w U3 := by
      rw [← hU3.out]
      exact ((hon1.out.next (Nat.le_refl _) (hS2.out.more fun q _ hq => by rcases hq with e | e <;> subst e <;> assumption)).setCell (p := ⟨gc, i * 7 + 6, none⟩) (.inl hgcT) _).setCell (p := ⟨gc, i * 7 + 5, none⟩) (.inl hgcT) _
     rw [hU3.out]
     replace hk3 := hide hk3
     clear hrow3 hkeep3 hin3 hV3 hI3 hok3 s5 s6 z5 z6 y5 y6 yz5 yz6
     go_wp2
     go_roundw
     case rel => exact ⟨i + 1, _, by go_num, hlt, hk3, hT3, hph', hon3⟩
     case measure => simp [intOf]; omega
    ·have hix : idxI ins.to p = -1 := by rw [idxI, if_neg hpm]
     rw [hix]
     have hk1 : Hid (OwnKd V1 0 (.slice (some ⟨gd, 0, none⟩) n C) (f.blocks.set b (mixP p l (i + 1))) xs ess') := hide (by
      rw [← mixP_same hins.out hpm]
      exact hkV.out.kept fun q _ hq => hb1.block q hq)
     have hon1 : Only T w.heap.size w V1 := honV.next (Nat.le_refl _) (Only.of_below hb1)
     replace hpm := hide hpm
     replace hb1 := hide hb1
     clear e0 e5 e6 e5b e6b f0 f1 d3 db
     go_wp2
     go_roundw
     case rel => exact ⟨i + 1, ess', by go_num, hlt, hk1, hTV, hph', hon1⟩
     case measure => simp [intOf]; omega
   ·have g1 : (ins.op != 25) = true := by rw [bne_iff_ne]; exact h25
    have hfin : Hid (MF V T N (setBlocks f (f.blocks.set b (loseL p l))) c (.slice (some ⟨gd, 0, none⟩) n C) ∧ Only T w.heap.size w V) := hide (by
     refine hP.out V ess' honV ?_ hTV.out
     rw [← mixP_stop hph.out (.inr ⟨ins, hins.out, h25⟩)]
     exact hkV.out)
    replace h25 := hide h25
    go_wp2
    try simp only [Exit.inBlock, Exit.then]
    refine bodyPost_ret (results_none rfl _ _ _) rfl ?_
    exact ⟨rfl, hfin.out⟩
  ·obtain rfl : m = i := by omega
   have hfin : Hid (MF V T N (setBlocks f (f.blocks.set b (loseL p l))) c (.slice (some ⟨gd, 0, none⟩) n C) ∧ Only T w.heap.size w V) := hide (by
    refine hP.out V ess' honV ?_ hTV.out
    rw [← mixP_stop hph.out (.inl hm.out)]
    exact hkV.out)
   go_wp2
   go_end0
   exact ⟨rfl, hfin.out⟩
end Go.Proofs.Ytamjcafjdioidaa
