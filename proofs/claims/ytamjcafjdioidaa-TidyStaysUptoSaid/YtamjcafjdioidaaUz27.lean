/- Texts of the chain, without what is not wanted: TdN. No condition but sizes. -/
import Derived.WalkKit
import Derived.Deep.Slices
import Derived.Deep.Draws
import Derived.ChangeSame
import Derived.ChangeOld
import Derived.OwnWalk
import Derived.Laws.OwnMore
import Derived.Deep.AppendLies
import Derived.Test.YtamjcafjdioidaaRows
import Derived.ProofKit
import Derived.OpenShut
import Derived.JoinedCond
import Derived.WalkSpells
import Derived.WalkLawsBesides
import Derived.Deep.RegionHeld3
import Derived.Deep.LoopGhost
import Derived.Deep.QuietTactic
import Derived.BigQuiet
import Derived.Deep.DeepCutAuto
import Derived.Deep.CutBlock
import Derived.StillTailTactics
import Derived.Deep.RegionLaw
import Derived.Lib.SliceRun
import Derived.Laws.IdiomCopy
import Derived.Deep.MidRow
import Derived.Lib.Overlaps
import Derived.RegionTactic
import Derived.Deep.RegionLawGrows
import Derived.Test.YtamjcafjdioidaaUz01
import Derived.Test.YtamjcafjdioidaaUz02
import Derived.Test.YtamjcafjdioidaaUz03
import Derived.Test.YtamjcafjdioidaaUz04
import Derived.Test.YtamjcafjdioidaaUz05
import Derived.Test.YtamjcafjdioidaaUz06
import Derived.Test.YtamjcafjdioidaaUz07
import Derived.Test.YtamjcafjdioidaaUz08
import Derived.Test.YtamjcafjdioidaaUz09
import Derived.Test.YtamjcafjdioidaaUz10
import Derived.Test.YtamjcafjdioidaaUz11
import Derived.Test.YtamjcafjdioidaaUz12
import Derived.Test.YtamjcafjdioidaaUz13
import Derived.Test.YtamjcafjdioidaaUz14
import Derived.Test.YtamjcafjdioidaaUz15
import Derived.Test.YtamjcafjdioidaaUz16
import Derived.Test.YtamjcafjdioidaaUz17
import Derived.Test.YtamjcafjdioidaaUz18
import Derived.Test.YtamjcafjdioidaaUz19
import Derived.Test.YtamjcafjdioidaaUz20
import Derived.Test.YtamjcafjdioidaaUz21
import Derived.Test.YtamjcafjdioidaaUz22
import Derived.Test.YtamjcafjdioidaaUz23
import Derived.Test.YtamjcafjdioidaaUz24
import Derived.Test.YtamjcafjdioidaaUz25
import Derived.Test.YtamjcafjdioidaaUz26
namespace Go.Proofs.Ytamjcafjdioidaa
open Go.RowKit
set_option linter.unusedSimpArgs false
set_option linter.unusedVariables false
def ruleS (bs : List (List Ins)) (i : Nat) : Option (List (List Ins)) :=
 match i with
 | 0 => decidedS (reachF bs) bs
 | 1 => twiceS (reachF bs) bs
 | 2 => singleS (reachF bs) bs
 | 3 => unseenS (reachF bs) bs
 | _ => mergedS (predsL (succsF bs) bs.length) bs
def stepS (bs : List (List Ins)) : Option (List (List Ins)) := ((List.range 5).find? fun i => (ruleS bs i).isSome).bind (ruleS bs)
theorem step_found {bs bs' : List (List Ins)} {i : Nat} (hi : i < 5) (h : ruleS bs i = some bs') (hno : ∀ j, j < i → ruleS bs j = none) : stepS bs = some bs' := by
 unfold stepS
 rw [find_range hi (by rw [h]; rfl) (fun j hj => by rw [hno j hj]; rfl)]
 exact h
theorem step_none {bs : List (List Ins)} (hno : ∀ j, j < 5 → ruleS bs j = none) : stepS bs = none := by
 unfold stepS
 rw [find_range_none (fun j hj => by rw [hno j hj]; rfl)]
 rfl
def StepPost (f : Fun) (w : World) (e : Ending) (w' : World) : Prop :=
 ∃ (T : Nat → Prop) (N : Nat) (c d : Value), e = .returned (.tuple #[(setBlocks f ((stepS f.blocks).getD f.blocks)).v c d, .bool (stepS f.blocks).isSome]) ∧ MF w' T N (setBlocks f ((stepS f.blocks).getD f.blocks)) c d ∧ (∀ k, T k → w.heap.size ≤ k) ∧ w.heap.size ≤ N ∧ (∀ k, c.ownBlock = some k → w.heap.size ≤ k) ∧ Below w.heap.size w w'
theorem step_fin {f g : Fun} {w w' : World} {T' : Nat → Prop} {N : Nat} {c d : Value} {b : Bool} (hM : MF w' T' N g c d) (hT : ∀ k, T' k → N + 2 ≤ k) (hc : ∀ k, c.ownBlock = some k → N + 2 ≤ k) (hB : Below w.heap.size w w') (hN : N = w.heap.size) (hg : g = setBlocks f ((stepS f.blocks).getD f.blocks)) (hb : b = (stepS f.blocks).isSome) :
  StepPost f w (.returned (.tuple #[.agg #[.string f.name, c, .int .i64 f.ret, d], .bool b])) ((((w'.setCell ⟨N + 1, 0, none⟩ (.string f.name)).setCell ⟨N + 1, 1, none⟩ c).setCell ⟨N + 1, 2, none⟩ (.int .i64 f.ret)).setCell ⟨N + 1, 3, none⟩ d) := by
 subst hg hb
 have hk : ∀ k, k ≠ N + 1 → ((((w'.setCell ⟨N + 1, 0, none⟩ (.string f.name)).setCell ⟨N + 1, 1, none⟩ c).setCell ⟨N + 1, 2, none⟩ (.int .i64 f.ret)).setCell ⟨N + 1, 3, none⟩ d).heap[k]? = w'.heap[k]? := fun k h => by
  rw [Below.heap_setCell _ ⟨N + 1, 3, none⟩ _ _ h, Below.heap_setCell _ ⟨N + 1, 2, none⟩ _ _ h, Below.heap_setCell _ ⟨N + 1, 1, none⟩ _ _ h, Below.heap_setCell _ ⟨N + 1, 0, none⟩ _ _ h]
 have h1 : w.heap.size ≤ N + 1 := by omega
 refine ⟨T', N, c, d, rfl, hM.kept fun k _ h2 => hk k ?_, fun k h2 => by have := hT k h2; omega, by omega, fun k h2 => by have := hc k h2; omega, (((hB.setCell (p := ⟨N + 1, 0, none⟩) h1 _).setCell (p := ⟨N + 1, 1, none⟩) h1 _).setCell (p := ⟨N + 1, 2, none⟩) h1 _).setCell (p := ⟨N + 1, 3, none⟩) h1 _⟩
 rcases h2 with h2 | h2 | h2
 ·have := hT k h2; omega
 ·omega
 ·have := hc k h2; omega
theorem RulePost.split {w w' : World} {T Cp : Nat → Prop} {N gf B : Nat} {f : Fun} {res : Option (List (List Ins))} {e : Ending} (h : RulePost w T N f Cp res e w') (hT : ∀ k, T k → B ≤ k ∧ k ≠ gf) (hC : ∀ k, Cp k → B ≤ k) (hB : B ≤ w.heap.size) (hg : gf < w.heap.size) :
  ∃ (T' : Nat → Prop) (c' d' : Value), (∀ k, T' k → B ≤ k ∧ k ≠ gf) ∧ (∀ k, c'.ownBlock = some k → B ≤ k) ∧ Only (fun k => k = N ∨ (B ≤ k ∧ k ≠ gf)) w.heap.size w w' ∧ ((res = none ∧ e = .returned (.bool false) ∧ MF w' T' N f c' d') ∨ ∃ bs, res = some bs ∧ e = .returned (.bool true) ∧ MF w' T' N (setBlocks f bs) c' d') := by
 obtain ⟨T', c', d', h1, h2, h3, h4⟩ := h
 refine ⟨T', c', d', fun k hk => ?_, fun k hk => ?_, h3.more fun k _ hk => hk.imp_right (hT k), ?_⟩
 ·rcases h1 k hk with h5 | h5
  ·exact hT k h5
  ·omega
 ·rcases h4 k hk with h5 | h5
  ·exact hC k h5
  ·omega
 ·cases res with
  | none => exact .inl ⟨rfl, h2.1, h2.2⟩
  | some bs => exact .inr ⟨bs, rfl, h2.1, h2.2⟩
set_option maxRecDepth 100000 in
set_option maxHeartbeats 12000000 in
theorem tstep_any (f : Fun) (c1 d1 : Value) (w : World) (B : Nat) (hB : B ≤ w.heap.size) (hf : RFun.rep w B [.string f.name, c1, .int .i64 f.ret, d1] f) (hs : Small f) (hwf : Wf f.blocks) (hfr : ∀ l, l ∈ f.blocks → Fronts l) :
  Calls Try.prog 20 #[f.v c1 d1] w (StepPost f w) := by
 obtain ⟨-, -, -, -, -, hret, hnm⟩ := id hf
 obtain ⟨st, hst⟩ : ∃ st, Hid (st = stepS f.blocks) := ⟨_, hide rfl⟩
 obtain ⟨W, hW, hwW, hWs, hx, hy⟩ := boxes2 w #[.string f.name, c1, .int .i64 f.ret, d1] #[.string ⟨#[]⟩, .slice none 0 0, .int .i64 0, .slice none 0 0] 32 32
 have cC : Hid (Calls Try.prog 34 #[f.v c1 d1] W (CopyTree f W)) := hide (icopytree_any f c1 d1 W B (by omega) (Rp.later hf (hwW.mono hB) (Nat.le_refl _)) hs)
 have q0 : ∀ w', Below W.heap.size W w' → w'.cell? ⟨w.heap.size, 0, none⟩ = some (.string f.name) := hx 0 _ rfl
 have q1 : ∀ w', Below W.heap.size W w' → w'.cell? ⟨w.heap.size, 1, none⟩ = some c1 := hx 1 _ rfl
 have q2 : ∀ w', Below W.heap.size W w' → w'.cell? ⟨w.heap.size, 2, none⟩ = some (.int .i64 f.ret) := hx 2 _ rfl
 have q3 : ∀ w', Below W.heap.size W w' → w'.cell? ⟨w.heap.size, 3, none⟩ = some d1 := hx 3 _ rfl
 have hbN : Hid (W.heap[w.heap.size]? = some (.cells #[.string f.name, c1, .int .i64 f.ret, d1] 32 (0, 0))) := hide (by rw [← hW]; exact box_under _ _ _)
 have hbR : Hid (W.heap[w.heap.size + 1]? = some (.cells #[.string ⟨#[]⟩, .slice none 0 0, .int .i64 0, .slice none 0 0] 32 (0, 0))) := hide (by rw [← hW]; have := box_top (w.alloc (.cells #[.string f.name, c1, .int .i64 f.ret, d1] 32)) (.cells #[.string ⟨#[]⟩, .slice none 0 0, .int .i64 0, .slice none 0 0] 32); simpa using this)
 have hself := Below.refl W.heap.size W
 have hwWs : w.heap.size + 1 < W.heap.size := by omega
 replace hWs := hide hWs
 replace hwW := hide hwW
 replace hW := hide hW
 replace hret := hide hret
 replace hnm := hide hnm
 replace hwf := hide hwf
 replace hfr := hide hfr
 replace hs := hide hs
 replace hf := hide hf
 clear hx hy
 go_enter Try.func20, Try.ntmps20
 go_upto_region 1 with (fail)
 rw [hW.out]
 go_wp2_with (fail)
 refine cC.out.mono ?_
 rintro e w1 ⟨c, d, L, rfl, hc, hcL, hd, hWL, hb1⟩
 have hW1s := hb1.size
 obtain ⟨A1, C1, hcf⟩ := row_form hc.row
 obtain ⟨A2, C2, hdf⟩ := hd.form
 subst hcf hdf
 obtain ⟨N, hN⟩ : ∃ N, Hid (N = w.heap.size) := ⟨_, hide rfl⟩
 rw [← hN.out] at hwWs q0 q1 q2 q3 hbN hbR ⊢
 have hN1 : Hid (w1.heap[N]? = some (.cells #[.string f.name, c1, .int .i64 f.ret, d1] 32 (0, 0))) := hide ((hb1.block N (by omega)).trans hbN.out)
 have hR1 : Hid (w1.heap[N + 1]? = some (.cells #[.string ⟨#[]⟩, .slice none 0 0, .int .i64 0, .slice none 0 0] 32 (0, 0))) := hide ((hb1.block (N + 1) (by omega)).trans hbR.out)
 obtain ⟨w2, hw2⟩ : ∃ w2, Hid ((((w1.setCell ⟨N, 0, none⟩ (.string f.name)).setCell ⟨N, 1, none⟩ (.slice A1 f.params.length C1)).setCell ⟨N, 2, none⟩ (.int .i64 f.ret)).setCell ⟨N, 3, none⟩ (.slice A2 f.blocks.length C2) = w2) := ⟨_, hide rfl⟩
 have r0 := q0 w1 hb1
 have r1 := q1 w1 hb1
 have r2 := q2 w1 hb1
 have r3 := q3 w1 hb1
 have n0 := box_cell9 hN1.out 0 rfl
 have n1 := box_cell9 hN1.out 1 rfl
 have n2 := box_cell9 hN1.out 2 rfl
 have n3 := box_cell9 hN1.out 3 rfl
 have nf : ∀ q, w1.frozen? ⟨N, q, none⟩ = false := fun q => by simp [World.frozen?, hN1.out]
 have hM2 : Hid (MF w2 (fun k => L ≤ k) N f (.slice A1 f.params.length C1) (.slice A2 f.blocks.length C2)) := hide (by
  rw [← hw2.out]
  exact MF.whole hN1.out (by omega) hWL hc hcL hd hret.out hnm.out)
 have hcW : Hid (∀ k, (Value.slice A1 f.params.length C1).ownBlock = some k → W.heap.size ≤ k) := hide (fun k hk => (row_lt hc.row hk).1)
 have hw2s : Hid (w2.heap.size = w1.heap.size) := hide (by rw [← hw2.out]; simp)
 have h2k : Hid (∀ k, k ≠ N → w2.heap[k]? = w1.heap[k]?) := hide (fun k h => by
  rw [← hw2.out, Below.heap_setCell _ ⟨N, 3, none⟩ _ _ h, Below.heap_setCell _ ⟨N, 2, none⟩ _ _ h, Below.heap_setCell _ ⟨N, 1, none⟩ _ _ h, Below.heap_setCell _ ⟨N, 0, none⟩ _ _ h])
 have h2o : Hid (Only (fun k => k = N) W.heap.size W w2) := hide (by
  rw [← hw2.out]
  have a0 : Only (fun k => k = N) W.heap.size W w1 := Only.of_below hb1
  exact (((((a0).setCell (p := ⟨N, 0, none⟩) (.inl rfl) _).setCell (p := ⟨N, 1, none⟩) (.inl rfl) _).setCell (p := ⟨N, 2, none⟩) (.inl rfl) _).setCell (p := ⟨N, 3, none⟩) (.inl rfl) _))
 replace hc := hide hc
 replace hcL := hide hcL
 replace hd := hide hd
 replace hb1 := hide hb1
 have hgf : Hid (w1.heap.size = w1.heap.size) := hide rfl
 go_upto_region 2 with (fail)
 rw [hw2.out]
 clear n0 n1 n2 n3 nf r0 r1 r2 r3 q0 q1 q2 q3 hself
 obtain ⟨gf, hgf⟩ : ∃ gf, Hid (gf = w2.heap.size) := ⟨_, hide rfl⟩
 obtain ⟨W3, hW3⟩ : ∃ W3, Hid (w2.alloc (.cells #[.func (.func 35) #[] #[], .func (.func 36) #[] #[], .func (.func 37) #[] #[], .func (.func 38) #[] #[], .func (.func 39) #[] #[]] 75) = W3) := ⟨_, hide rfl⟩
 have hb3 : Hid (Below w2.heap.size w2 W3) := hide (by rw [← hW3.out]; exact (Below.refl _ _).alloc (Nat.le_refl _) _)
 have hF3 : Hid (W3.heap[gf]? = some (.cells #[.func (.func 35) #[] #[], .func (.func 36) #[] #[], .func (.func 37) #[] #[], .func (.func 38) #[] #[], .func (.func 39) #[] #[]] 75 (0, 0))) := hide (by rw [← hW3.out, hgf.out]; exact heap_alloc_new _ _)
 have hgfW3 : gf < W3.heap.size := (Array.getElem?_eq_some_iff.1 hF3.out).1
 have hgW : W.heap.size ≤ gf := by rw [hgf.out, hw2s.out]; exact hW1s
 have hW3s : Hid (w2.heap.size ≤ W3.heap.size) := hide hb3.out.size
 have hM3 : Hid (MF W3 (fun k => L ≤ k ∧ k < w2.heap.size) N f (.slice A1 f.params.length C1) (.slice A2 f.blocks.length C2)) := hide (hM2.out.cut.below hb3.out)
 have hT3 : Hid (∀ k, (fun k => L ≤ k ∧ k < w2.heap.size) k → W.heap.size ≤ k ∧ k ≠ gf) := hide (fun k hk => ⟨by have := hk.1; omega, by have := hk.2; have := hgf.out; omega⟩)
 have hno0 : Hid (∀ j, j < 0 → ruleS f.blocks j = none) := hide (fun j hj => by omega)
 have hon0 : Only (fun k => k = N ∨ (W.heap.size ≤ k ∧ k ≠ gf)) W3.heap.size W3 W3 := Only.refl _ _ _
 have hwW3 : Hid (Below w.heap.size w W3) := hide (by
  have h1 : Only (fun k => k = N) w.heap.size w W3 := (Only.of_below hwW.out).trans ((h2o.out.mono hwW.out.size).trans (Only.of_below (hb3.out.mono (by have := hwW.out.size; have := hw2s.out; omega))))
  exact h1.to_below (B' := w.heap.size) (fun k hk => by have := hN.out; omega) (Nat.le_refl _))
 have hR3 : Hid (W3.heap[N + 1]? = some (.cells #[.string ⟨#[]⟩, .slice none 0 0, .int .i64 0, .slice none 0 0] 32 (0, 0))) := hide (by
  rw [hb3.out.block (N + 1) (by have := hw2s.out; omega), h2k.out (N + 1) (by omega)]
  exact hR1.out)
 have hN1W3 : N + 1 < W3.heap.size := (Array.getElem?_eq_some_iff.1 hR3.out).1
 have nQ : ¬ (N + 1 = N ∨ (W.heap.size ≤ N + 1 ∧ N + 1 ≠ gf)) := by omega
 have nG : ¬ (gf = N ∨ (W.heap.size ≤ gf ∧ gf ≠ gf)) := by omega
 have R0 := on_fact (Q := fun k => k = N ∨ (W.heap.size ≤ k ∧ k ≠ gf)) (box_cell9 hR3.out 0 rfl) hN1W3 nQ
 have R1 := on_fact (Q := fun k => k = N ∨ (W.heap.size ≤ k ∧ k ≠ gf)) (box_cell9 hR3.out 1 rfl) hN1W3 nQ
 have R2 := on_fact (Q := fun k => k = N ∨ (W.heap.size ≤ k ∧ k ≠ gf)) (box_cell9 hR3.out 2 rfl) hN1W3 nQ
 have R3 := on_fact (Q := fun k => k = N ∨ (W.heap.size ≤ k ∧ k ≠ gf)) (box_cell9 hR3.out 3 rfl) hN1W3 nQ
 have RF : Hid (∀ q w', Only (fun k => k = N ∨ (W.heap.size ≤ k ∧ k ≠ gf)) W3.heap.size W3 w' → w'.frozen? ⟨N + 1, q, none⟩ = false) := hide (fun q => on_free (Q := fun k => k = N ∨ (W.heap.size ≤ k ∧ k ≠ gf)) (by simp [World.frozen?, hR3.out]) hN1W3 nQ)
 have g0 := hide (on_fact (Q := fun k => k = N ∨ (W.heap.size ≤ k ∧ k ≠ gf)) (box_cell9 hF3.out 0 rfl) hgfW3 nG)
 have g1 := hide (on_fact (Q := fun k => k = N ∨ (W.heap.size ≤ k ∧ k ≠ gf)) (box_cell9 hF3.out 1 rfl) hgfW3 nG)
 have g2 := hide (on_fact (Q := fun k => k = N ∨ (W.heap.size ≤ k ∧ k ≠ gf)) (box_cell9 hF3.out 2 rfl) hgfW3 nG)
 have g3 := hide (on_fact (Q := fun k => k = N ∨ (W.heap.size ≤ k ∧ k ≠ gf)) (box_cell9 hF3.out 3 rfl) hgfW3 nG)
 have g4 := hide (on_fact (Q := fun k => k = N ∨ (W.heap.size ≤ k ∧ k ≠ gf)) (box_cell9 hF3.out 4 rfl) hgfW3 nG)
 replace R0 := hide R0
 replace R1 := hide R1
 replace R2 := hide R2
 replace R3 := hide R3
 go_upto_region 3 with (fail)
 rw [hW3.out, ← hgf.out]
 go_wp2
 go_loopw [10] (fun s wr => ∃ (i : Nat) (T2 : Nat → Prop) (c2 d2 : Value), s = .int .i64 i ∧ i ≤ 5 ∧ Hid (MF wr T2 N f c2 d2) ∧ Hid (∀ k, T2 k → W.heap.size ≤ k ∧ k ≠ gf) ∧ Hid (∀ k, c2.ownBlock = some k → W.heap.size ≤ k) ∧ Hid (∀ j, j < i → ruleS f.blocks j = none) ∧ Only (fun k => k = N ∨ (W.heap.size ≤ k ∧ k ≠ gf)) W3.heap.size W3 wr) (fun s _ => 5 - (intOf s).toNat)
 case atStart => exact ⟨0, _, _, _, rfl, by omega, hM3, hT3, hcW, hno0, hon0⟩
 case round =>
  clear hM3 hT3 hno0 hon0
  rename World => V
  obtain ⟨i, T2, c2, d2, rfl, hi, hM, hT, hC, hno, hon⟩ := hrel
  have hVs := hon.size
  have hgV : gf < V.heap.size := by omega
  have hWV : W.heap.size ≤ V.heap.size := by omega
  by_cases hlt : i < 5
  ·have hcase : i = 0 ∨ i = 1 ∨ i = 2 ∨ i = 3 ∨ i = 4 := by omega
   rcases hcase with hi9 | hi9 | hi9 | hi9 | hi9
   ·subst hi9
    have gk := g0.out V hon
    have cR : Hid (Calls Try.prog 35 #[.pointer (some ⟨N, 0, none⟩)] V (RulePost V T2 N f (fun k => c2.ownBlock = some k) (ruleS f.blocks 0))) := hide (tdecided_any (fun k hk => hk) hM.out hs.out hwf.out)
    replace hM := hide hM
    go_wp2_with (fail)
    refine cR.out.mono ?_
    intro e w4 hpost
    obtain ⟨T4, c4, d4, hT4, hC4, hon4, hres⟩ := hpost.split (B := W.heap.size) (gf := gf) hT.out hC.out hWV hgV
    clear hpost gk
    have hon5 := hon.next (Nat.le_refl _) hon4
    replace hT4 := hide hT4
    replace hC4 := hide hC4
    rcases hres with ⟨hr, rfl, hM4⟩ | ⟨bs, hr, rfl, hM4⟩
    ·have hno4 : Hid (∀ j, j < 0 + 1 → ruleS f.blocks j = none) := hide (fun j hj => by
      rcases Nat.lt_succ_iff_lt_or_eq.1 hj with h1 | h1
      ·exact hno.out j h1
      ·rw [h1]; exact hr)
     replace hM4 := hide hM4
     replace hr := hide hr
     go_wp2
     go_roundw
     case rel => exact ⟨0 + 1, T4, c4, d4, by go_num, by omega, hM4, hT4, hC4, hno4, hon5⟩
     case measure => simp [intOf]
    ·skip
     obtain ⟨nc, Ac, Cc, hcf⟩ : ∃ n A C, c4 = .slice A n C := by obtain ⟨A, C, h⟩ := row_form hM4.par.row; exact ⟨_, A, C, h⟩
     obtain ⟨nd, Ad, Cd, hdf⟩ : ∃ n A C, d4 = .slice A n C := by obtain ⟨_, _, hk, _⟩ := hM4.tree; obtain ⟨A, C, h⟩ := row_form hk.row; exact ⟨_, A, C, h⟩
     subst hcf hdf
     have hst9 := hide (step_found (by omega) hr hno.out)
     have hB4 : Hid (Below w.heap.size w w4) := hide (hwW3.out.trans ((hon5.mono hwW3.out.size).to_below (B' := w.heap.size) (fun k hk => by have := hN.out; have := hWs.out; omega) (Nat.le_refl _)))
     have hfin : Hid (StepPost f w (.returned (.tuple #[.agg #[.string f.name, .slice Ac nc Cc, .int .i64 f.ret, .slice Ad nd Cd], .bool true])) ((((w4.setCell ⟨N + 1, 0, none⟩ (.string f.name)).setCell ⟨N + 1, 1, none⟩ (.slice Ac nc Cc)).setCell ⟨N + 1, 2, none⟩ (.int .i64 f.ret)).setCell ⟨N + 1, 3, none⟩ (.slice Ad nd Cd))) := hide (step_fin hM4 (fun k hk => by have := (hT4.out k hk).1; have := hN.out; have := hWs.out; omega) (fun k hk => by have := hC4.out k hk; have := hN.out; have := hWs.out; omega) hB4.out hN.out (by rw [hst9.out]; rfl) (by rw [hst9.out]; rfl))
     have m0 : w4.cell? ⟨N, 0, none⟩ = some (.string f.name) := box_cell9 hM4.box 0 rfl
     have m1 := box_cell9 hM4.box 1 rfl
     have m2 : w4.cell? ⟨N, 2, none⟩ = some (.int .i64 f.ret) := box_cell9 hM4.box 2 rfl
     have m3 := box_cell9 hM4.box 3 rfl
     have v0 := R0.out w4 hon5
     have v1 := R1.out w4 hon5
     have v2 := R2.out w4 hon5
     have v3 := R3.out w4 hon5
     have vf := fun q => RF.out q w4 hon5
     replace hM4 := hide hM4
     replace hr := hide hr
     go_wp2
     try simp only [Exit.inBlock, Exit.then]
     refine bodyPost_ret (v := .tuple #[.agg #[.string f.name, .slice Ac nc Cc, .int .i64 f.ret, .slice Ad nd Cd], .bool true]) ?_ rfl ?_
     ·simp [results, Try.results20, go_sem, v0, v1, v2, v3]
     ·exact hfin.out
   ·subst hi9
    have gk := g1.out V hon
    have cR : Hid (Calls Try.prog 36 #[.pointer (some ⟨N, 0, none⟩)] V (RulePost V T2 N f (fun k => c2.ownBlock = some k) (ruleS f.blocks 1))) := hide (ttwice_any (fun k hk => hk) hM.out hs.out hwf.out)
    replace hM := hide hM
    go_wp2_with (fail)
    refine cR.out.mono ?_
    intro e w4 hpost
    obtain ⟨T4, c4, d4, hT4, hC4, hon4, hres⟩ := hpost.split (B := W.heap.size) (gf := gf) hT.out hC.out hWV hgV
    clear hpost gk
    have hon5 := hon.next (Nat.le_refl _) hon4
    replace hT4 := hide hT4
    replace hC4 := hide hC4
    rcases hres with ⟨hr, rfl, hM4⟩ | ⟨bs, hr, rfl, hM4⟩
    ·have hno4 : Hid (∀ j, j < 1 + 1 → ruleS f.blocks j = none) := hide (fun j hj => by
      rcases Nat.lt_succ_iff_lt_or_eq.1 hj with h1 | h1
      ·exact hno.out j h1
      ·rw [h1]; exact hr)
     replace hM4 := hide hM4
     replace hr := hide hr
     go_wp2
     go_roundw
     case rel => exact ⟨1 + 1, T4, c4, d4, by go_num, by omega, hM4, hT4, hC4, hno4, hon5⟩
     case measure => simp [intOf]
    ·skip
     obtain ⟨nc, Ac, Cc, hcf⟩ : ∃ n A C, c4 = .slice A n C := by obtain ⟨A, C, h⟩ := row_form hM4.par.row; exact ⟨_, A, C, h⟩
     obtain ⟨nd, Ad, Cd, hdf⟩ : ∃ n A C, d4 = .slice A n C := by obtain ⟨_, _, hk, _⟩ := hM4.tree; obtain ⟨A, C, h⟩ := row_form hk.row; exact ⟨_, A, C, h⟩
     subst hcf hdf
     have hst9 := hide (step_found (by omega) hr hno.out)
     have hB4 : Hid (Below w.heap.size w w4) := hide (hwW3.out.trans ((hon5.mono hwW3.out.size).to_below (B' := w.heap.size) (fun k hk => by have := hN.out; have := hWs.out; omega) (Nat.le_refl _)))
     have hfin : Hid (StepPost f w (.returned (.tuple #[.agg #[.string f.name, .slice Ac nc Cc, .int .i64 f.ret, .slice Ad nd Cd], .bool true])) ((((w4.setCell ⟨N + 1, 0, none⟩ (.string f.name)).setCell ⟨N + 1, 1, none⟩ (.slice Ac nc Cc)).setCell ⟨N + 1, 2, none⟩ (.int .i64 f.ret)).setCell ⟨N + 1, 3, none⟩ (.slice Ad nd Cd))) := hide (step_fin hM4 (fun k hk => by have := (hT4.out k hk).1; have := hN.out; have := hWs.out; omega) (fun k hk => by have := hC4.out k hk; have := hN.out; have := hWs.out; omega) hB4.out hN.out (by rw [hst9.out]; rfl) (by rw [hst9.out]; rfl))
     have m0 : w4.cell? ⟨N, 0, none⟩ = some (.string f.name) := box_cell9 hM4.box 0 rfl
     have m1 := box_cell9 hM4.box 1 rfl
     have m2 : w4.cell? ⟨N, 2, none⟩ = some (.int .i64 f.ret) := box_cell9 hM4.box 2 rfl
     have m3 := box_cell9 hM4.box 3 rfl
     have v0 := R0.out w4 hon5
     have v1 := R1.out w4 hon5
     have v2 := R2.out w4 hon5
     have v3 := R3.out w4 hon5
     have vf := fun q => RF.out q w4 hon5
     replace hM4 := hide hM4
     replace hr := hide hr
     go_wp2
     try simp only [Exit.inBlock, Exit.then]
     refine bodyPost_ret (v := .tuple #[.agg #[.string f.name, .slice Ac nc Cc, .int .i64 f.ret, .slice Ad nd Cd], .bool true]) ?_ rfl ?_
     ·simp [results, Try.results20, go_sem, v0, v1, v2, v3]
     ·exact hfin.out
   ·subst hi9
    have gk := g2.out V hon
    have cR : Hid (Calls Try.prog 37 #[.pointer (some ⟨N, 0, none⟩)] V (RulePost V T2 N f (fun k => c2.ownBlock = some k) (ruleS f.blocks 2))) := hide (tsingle_any (fun k hk => hk) hM.out hs.out hwf.out)
    replace hM := hide hM
    go_wp2_with (fail)
    refine cR.out.mono ?_
    intro e w4 hpost
    obtain ⟨T4, c4, d4, hT4, hC4, hon4, hres⟩ := hpost.split (B := W.heap.size) (gf := gf) hT.out hC.out hWV hgV
    clear hpost gk
    have hon5 := hon.next (Nat.le_refl _) hon4
    replace hT4 := hide hT4
    replace hC4 := hide hC4
    rcases hres with ⟨hr, rfl, hM4⟩ | ⟨bs, hr, rfl, hM4⟩
    ·have hno4 : Hid (∀ j, j < 2 + 1 → ruleS f.blocks j = none) := hide (fun j hj => by
      rcases Nat.lt_succ_iff_lt_or_eq.1 hj with h1 | h1
      ·exact hno.out j h1
      ·rw [h1]; exact hr)
     replace hM4 := hide hM4
     replace hr := hide hr
     go_wp2
     go_roundw
     case rel => exact ⟨2 + 1, T4, c4, d4, by go_num, by omega, hM4, hT4, hC4, hno4, hon5⟩
     case measure => simp [intOf]
    ·skip
     obtain ⟨nc, Ac, Cc, hcf⟩ : ∃ n A C, c4 = .slice A n C := by obtain ⟨A, C, h⟩ := row_form hM4.par.row; exact ⟨_, A, C, h⟩
     obtain ⟨nd, Ad, Cd, hdf⟩ : ∃ n A C, d4 = .slice A n C := by obtain ⟨_, _, hk, _⟩ := hM4.tree; obtain ⟨A, C, h⟩ := row_form hk.row; exact ⟨_, A, C, h⟩
     subst hcf hdf
     have hst9 := hide (step_found (by omega) hr hno.out)
     have hB4 : Hid (Below w.heap.size w w4) := hide (hwW3.out.trans ((hon5.mono hwW3.out.size).to_below (B' := w.heap.size) (fun k hk => by have := hN.out; have := hWs.out; omega) (Nat.le_refl _)))
     have hfin : Hid (StepPost f w (.returned (.tuple #[.agg #[.string f.name, .slice Ac nc Cc, .int .i64 f.ret, .slice Ad nd Cd], .bool true])) ((((w4.setCell ⟨N + 1, 0, none⟩ (.string f.name)).setCell ⟨N + 1, 1, none⟩ (.slice Ac nc Cc)).setCell ⟨N + 1, 2, none⟩ (.int .i64 f.ret)).setCell ⟨N + 1, 3, none⟩ (.slice Ad nd Cd))) := hide (step_fin hM4 (fun k hk => by have := (hT4.out k hk).1; have := hN.out; have := hWs.out; omega) (fun k hk => by have := hC4.out k hk; have := hN.out; have := hWs.out; omega) hB4.out hN.out (by rw [hst9.out]; rfl) (by rw [hst9.out]; rfl))
     have m0 : w4.cell? ⟨N, 0, none⟩ = some (.string f.name) := box_cell9 hM4.box 0 rfl
     have m1 := box_cell9 hM4.box 1 rfl
     have m2 : w4.cell? ⟨N, 2, none⟩ = some (.int .i64 f.ret) := box_cell9 hM4.box 2 rfl
     have m3 := box_cell9 hM4.box 3 rfl
     have v0 := R0.out w4 hon5
     have v1 := R1.out w4 hon5
     have v2 := R2.out w4 hon5
     have v3 := R3.out w4 hon5
     have vf := fun q => RF.out q w4 hon5
     replace hM4 := hide hM4
     replace hr := hide hr
     go_wp2
     try simp only [Exit.inBlock, Exit.then]
     refine bodyPost_ret (v := .tuple #[.agg #[.string f.name, .slice Ac nc Cc, .int .i64 f.ret, .slice Ad nd Cd], .bool true]) ?_ rfl ?_
     ·simp [results, Try.results20, go_sem, v0, v1, v2, v3]
     ·exact hfin.out
   ·subst hi9
    have gk := g3.out V hon
    have cR : Hid (Calls Try.prog 38 #[.pointer (some ⟨N, 0, none⟩)] V (RulePost V T2 N f (fun k => c2.ownBlock = some k) (ruleS f.blocks 3))) := hide (tunseens_any (fun k hk => hk) hM.out hs.out hwf.out)
    replace hM := hide hM
    go_wp2_with (fail)
    refine cR.out.mono ?_
    intro e w4 hpost
    obtain ⟨T4, c4, d4, hT4, hC4, hon4, hres⟩ := hpost.split (B := W.heap.size) (gf := gf) hT.out hC.out hWV hgV
    clear hpost gk
    have hon5 := hon.next (Nat.le_refl _) hon4
    replace hT4 := hide hT4
    replace hC4 := hide hC4
    rcases hres with ⟨hr, rfl, hM4⟩ | ⟨bs, hr, rfl, hM4⟩
    ·have hno4 : Hid (∀ j, j < 3 + 1 → ruleS f.blocks j = none) := hide (fun j hj => by
      rcases Nat.lt_succ_iff_lt_or_eq.1 hj with h1 | h1
      ·exact hno.out j h1
      ·rw [h1]; exact hr)
     replace hM4 := hide hM4
     replace hr := hide hr
     go_wp2
     go_roundw
     case rel => exact ⟨3 + 1, T4, c4, d4, by go_num, by omega, hM4, hT4, hC4, hno4, hon5⟩
     case measure => simp [intOf]
    ·skip
     obtain ⟨nc, Ac, Cc, hcf⟩ : ∃ n A C, c4 = .slice A n C := by obtain ⟨A, C, h⟩ := row_form hM4.par.row; exact ⟨_, A, C, h⟩
     obtain ⟨nd, Ad, Cd, hdf⟩ : ∃ n A C, d4 = .slice A n C := by obtain ⟨_, _, hk, _⟩ := hM4.tree; obtain ⟨A, C, h⟩ := row_form hk.row; exact ⟨_, A, C, h⟩
     subst hcf hdf
     have hst9 := hide (step_found (by omega) hr hno.out)
     have hB4 : Hid (Below w.heap.size w w4) := hide (hwW3.out.trans ((hon5.mono hwW3.out.size).to_below (B' := w.heap.size) (fun k hk => by have := hN.out; have := hWs.out; omega) (Nat.le_refl _)))
     have hfin : Hid (StepPost f w (.returned (.tuple #[.agg #[.string f.name, .slice Ac nc Cc, .int .i64 f.ret, .slice Ad nd Cd], .bool true])) ((((w4.setCell ⟨N + 1, 0, none⟩ (.string f.name)).setCell ⟨N + 1, 1, none⟩ (.slice Ac nc Cc)).setCell ⟨N + 1, 2, none⟩ (.int .i64 f.ret)).setCell ⟨N + 1, 3, none⟩ (.slice Ad nd Cd))) := hide (step_fin hM4 (fun k hk => by have := (hT4.out k hk).1; have := hN.out; have := hWs.out; omega) (fun k hk => by have := hC4.out k hk; have := hN.out; have := hWs.out; omega) hB4.out hN.out (by rw [hst9.out]; rfl) (by rw [hst9.out]; rfl))
     have m0 : w4.cell? ⟨N, 0, none⟩ = some (.string f.name) := box_cell9 hM4.box 0 rfl
     have m1 := box_cell9 hM4.box 1 rfl
     have m2 : w4.cell? ⟨N, 2, none⟩ = some (.int .i64 f.ret) := box_cell9 hM4.box 2 rfl
     have m3 := box_cell9 hM4.box 3 rfl
     have v0 := R0.out w4 hon5
     have v1 := R1.out w4 hon5
     have v2 := R2.out w4 hon5
     have v3 := R3.out w4 hon5
     have vf := fun q => RF.out q w4 hon5
     replace hM4 := hide hM4
     replace hr := hide hr
     go_wp2
     try simp only [Exit.inBlock, Exit.then]
     refine bodyPost_ret (v := .tuple #[.agg #[.string f.name, .slice Ac nc Cc, .int .i64 f.ret, .slice Ad nd Cd], .bool true]) ?_ rfl ?_
     ·simp [results, Try.results20, go_sem, v0, v1, v2, v3]
     ·exact hfin.out
   ·subst hi9
    have gk := g4.out V hon
    have cR : Hid (Calls Try.prog 39 #[.pointer (some ⟨N, 0, none⟩)] V (RulePost V T2 N f (fun k => c2.ownBlock = some k) (ruleS f.blocks 4))) := hide (tmerged_any (fun k hk => hk) hM.out hs.out hwf.out hfr.out)
    replace hM := hide hM
    go_wp2_with (fail)
    refine cR.out.mono ?_
    intro e w4 hpost
    obtain ⟨T4, c4, d4, hT4, hC4, hon4, hres⟩ := hpost.split (B := W.heap.size) (gf := gf) hT.out hC.out hWV hgV
    clear hpost gk
    have hon5 := hon.next (Nat.le_refl _) hon4
    replace hT4 := hide hT4
    replace hC4 := hide hC4
    rcases hres with ⟨hr, rfl, hM4⟩ | ⟨bs, hr, rfl, hM4⟩
    ·have hno4 : Hid (∀ j, j < 4 + 1 → ruleS f.blocks j = none) := hide (fun j hj => by
      rcases Nat.lt_succ_iff_lt_or_eq.1 hj with h1 | h1
      ·exact hno.out j h1
      ·rw [h1]; exact hr)
     replace hM4 := hide hM4
     replace hr := hide hr
     go_wp2
     go_roundw
     case rel => exact ⟨4 + 1, T4, c4, d4, by go_num, by omega, hM4, hT4, hC4, hno4, hon5⟩
     case measure => simp [intOf]
    ·skip
     obtain ⟨nc, Ac, Cc, hcf⟩ : ∃ n A C, c4 = .slice A n C := by obtain ⟨A, C, h⟩ := row_form hM4.par.row; exact ⟨_, A, C, h⟩
     obtain ⟨nd, Ad, Cd, hdf⟩ : ∃ n A C, d4 = .slice A n C := by obtain ⟨_, _, hk, _⟩ := hM4.tree; obtain ⟨A, C, h⟩ := row_form hk.row; exact ⟨_, A, C, h⟩
     subst hcf hdf
     have hst9 := hide (step_found (by omega) hr hno.out)
     have hB4 : Hid (Below w.heap.size w w4) := hide (hwW3.out.trans ((hon5.mono hwW3.out.size).to_below (B' := w.heap.size) (fun k hk => by have := hN.out; have := hWs.out; omega) (Nat.le_refl _)))
     have hfin : Hid (StepPost f w (.returned (.tuple #[.agg #[.string f.name, .slice Ac nc Cc, .int .i64 f.ret, .slice Ad nd Cd], .bool true])) ((((w4.setCell ⟨N + 1, 0, none⟩ (.string f.name)).setCell ⟨N + 1, 1, none⟩ (.slice Ac nc Cc)).setCell ⟨N + 1, 2, none⟩ (.int .i64 f.ret)).setCell ⟨N + 1, 3, none⟩ (.slice Ad nd Cd))) := hide (step_fin hM4 (fun k hk => by have := (hT4.out k hk).1; have := hN.out; have := hWs.out; omega) (fun k hk => by have := hC4.out k hk; have := hN.out; have := hWs.out; omega) hB4.out hN.out (by rw [hst9.out]; rfl) (by rw [hst9.out]; rfl))
     have m0 : w4.cell? ⟨N, 0, none⟩ = some (.string f.name) := box_cell9 hM4.box 0 rfl
     have m1 := box_cell9 hM4.box 1 rfl
     have m2 : w4.cell? ⟨N, 2, none⟩ = some (.int .i64 f.ret) := box_cell9 hM4.box 2 rfl
     have m3 := box_cell9 hM4.box 3 rfl
     have v0 := R0.out w4 hon5
     have v1 := R1.out w4 hon5
     have v2 := R2.out w4 hon5
     have v3 := R3.out w4 hon5
     have vf := fun q => RF.out q w4 hon5
     replace hM4 := hide hM4
     replace hr := hide hr
     go_wp2
     try simp only [Exit.inBlock, Exit.then]
     refine bodyPost_ret (v := .tuple #[.agg #[.string f.name, .slice Ac nc Cc, .int .i64 f.ret, .slice Ad nd Cd], .bool true]) ?_ rfl ?_
     ·simp [results, Try.results20, go_sem, v0, v1, v2, v3]
     ·exact hfin.out
  ·obtain rfl : i = 5 := by omega
   obtain ⟨nc, Ac, Cc, hcf⟩ : ∃ n A C, c2 = .slice A n C := by obtain ⟨A, C, h⟩ := row_form hM.out.par.row; exact ⟨_, A, C, h⟩
   obtain ⟨nd, Ad, Cd, hdf⟩ : ∃ n A C, d2 = .slice A n C := by obtain ⟨_, _, hk, _⟩ := hM.out.tree; obtain ⟨A, C, h⟩ := row_form hk.row; exact ⟨_, A, C, h⟩
   subst hcf hdf
   have hst9 := hide (step_none hno.out)
   have hB4 : Hid (Below w.heap.size w V) := hide (hwW3.out.trans ((hon.mono hwW3.out.size).to_below (B' := w.heap.size) (fun k hk => by have := hN.out; have := hWs.out; omega) (Nat.le_refl _)))
   have hfin : Hid (StepPost f w (.returned (.tuple #[.agg #[.string f.name, .slice Ac nc Cc, .int .i64 f.ret, .slice Ad nd Cd], .bool false])) ((((V.setCell ⟨N + 1, 0, none⟩ (.string f.name)).setCell ⟨N + 1, 1, none⟩ (.slice Ac nc Cc)).setCell ⟨N + 1, 2, none⟩ (.int .i64 f.ret)).setCell ⟨N + 1, 3, none⟩ (.slice Ad nd Cd))) := hide (step_fin hM.out (fun k hk => by have := (hT.out k hk).1; have := hN.out; have := hWs.out; omega) (fun k hk => by have := hC.out k hk; have := hN.out; have := hWs.out; omega) hB4.out hN.out (by rw [hst9.out]; rfl) (by rw [hst9.out]; rfl))
   have m0 := box_cell9 hM.out.box 0 rfl
   have m1 := box_cell9 hM.out.box 1 rfl
   have m2 := box_cell9 hM.out.box 2 rfl
   have m3 := box_cell9 hM.out.box 3 rfl
   have v0 := R0.out V hon
   have v1 := R1.out V hon
   have v2 := R2.out V hon
   have v3 := R3.out V hon
   have vf := fun q => RF.out q V hon
   go_wp2
   try simp only [Exit.inBlock, Exit.then]
   refine bodyPost_ret (v := .tuple #[.agg #[.string f.name, .slice Ac nc Cc, .int .i64 f.ret, .slice Ad nd Cd], .bool false]) ?_ rfl ?_
   ·simp [results, Try.results20, go_sem, v0, v1, v2, v3]
   ·exact hfin.out
end Go.Proofs.Ytamjcafjdioidaa
