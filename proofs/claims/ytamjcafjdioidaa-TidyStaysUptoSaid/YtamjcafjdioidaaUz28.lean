/- Texts of the chain, without what is not wanted: TdO. No condition but sizes. -/
import Derived.WalkKit
import Derived.Deep.Slices
import Derived.Deep.Draws
import Derived.ChangeSame
import Derived.ChangeOld
import Derived.OwnWalk
import Derived.Laws.OwnMore
import Derived.Deep.AppendLies
import Derived.Test.YtamjcafjdioidaaRows
import Derived.ProofKit
import Derived.OpenShut
import Derived.JoinedCond
import Derived.WalkSpells
import Derived.WalkLawsBesides
import Derived.Deep.RegionHeld3
import Derived.Deep.LoopGhost
import Derived.Deep.QuietTactic
import Derived.BigQuiet
import Derived.Deep.DeepCutAuto
import Derived.Deep.CutBlock
import Derived.StillTailTactics
import Derived.Deep.RegionLaw
import Derived.Lib.SliceRun
import Derived.Laws.IdiomCopy
import Derived.Deep.MidRow
import Derived.Lib.Overlaps
import Derived.RegionTactic
import Derived.Deep.RegionLawGrows
import Derived.Test.YtamjcafjdioidaaUz01
import Derived.Test.YtamjcafjdioidaaUz02
import Derived.Test.YtamjcafjdioidaaUz03
import Derived.Test.YtamjcafjdioidaaUz04
import Derived.Test.YtamjcafjdioidaaUz05
import Derived.Test.YtamjcafjdioidaaUz06
import Derived.Test.YtamjcafjdioidaaUz07
import Derived.Test.YtamjcafjdioidaaUz08
import Derived.Test.YtamjcafjdioidaaUz09
import Derived.Test.YtamjcafjdioidaaUz10
import Derived.Test.YtamjcafjdioidaaUz11
import Derived.Test.YtamjcafjdioidaaUz12
import Derived.Test.YtamjcafjdioidaaUz13
import Derived.Test.YtamjcafjdioidaaUz14
import Derived.Test.YtamjcafjdioidaaUz15
import Derived.Test.YtamjcafjdioidaaUz16
import Derived.Test.YtamjcafjdioidaaUz17
import Derived.Test.YtamjcafjdioidaaUz18
import Derived.Test.YtamjcafjdioidaaUz19
import Derived.Test.YtamjcafjdioidaaUz20
import Derived.Test.YtamjcafjdioidaaUz21
import Derived.Test.YtamjcafjdioidaaUz22
import Derived.Test.YtamjcafjdioidaaUz23
import Derived.Test.YtamjcafjdioidaaUz24
import Derived.Test.YtamjcafjdioidaaUz25
import Derived.Test.YtamjcafjdioidaaUz26
import Derived.Test.YtamjcafjdioidaaUz27
namespace Go.Proofs.Ytamjcafjdioidaa
open Go.RowKit
set_option linter.unusedSimpArgs false
set_option linter.unusedVariables false
def wt (l : List Ins) : Nat := 1 + l.length + l.countP fun x => x.op == 32
def mz (bs : List (List Ins)) : Nat := (bs.map wt).sum
def allF : Nat → List (List Ins) → List (List Ins)
 | 0, bs => bs
 | k + 1, bs => match stepS bs with | none => bs | some bs' => allF k bs'
def allS (bs : List (List Ins)) : List (List Ins) := allF (mz bs) bs
structure InvT (I : List (List Ins) → Prop) (f : Fun) : Prop where
 small : ∀ bs, I bs → Small (setBlocks f bs)
 wf : ∀ bs, I bs → Wf bs
 fr : ∀ bs, I bs → ∀ l, l ∈ bs → Fronts l
 step : ∀ bs bs', I bs → stepS bs = some bs' → I bs' ∧ mz bs' < mz bs
section
variable {I : List (List Ins) → Prop} {f : Fun} {bs bs' : List (List Ins)}
theorem allF_more (h : InvT I f) : ∀ (k j : Nat) (bs : List (List Ins)), I bs → mz bs ≤ k → mz bs ≤ j → allF k bs = allF j bs
 | 0, 0, bs, _, _, _ => rfl
 | 0, j + 1, bs, hI, hk, _ => by
  rw [allF, allF]
  cases hs : stepS bs with
  | none => rfl
  | some bs' => have := (h.step bs bs' hI hs).2; omega
 | k + 1, 0, bs, hI, _, hj => by
  rw [allF, allF]
  cases hs : stepS bs with
  | none => rfl
  | some bs' => have := (h.step bs bs' hI hs).2; omega
 | k + 1, j + 1, bs, hI, hk, hj => by
  rw [allF, allF]
  cases hs : stepS bs with
  | none => rfl
  | some bs' =>
   have h1 := h.step bs bs' hI hs
   exact allF_more h k j bs' h1.1 (by omega) (by omega)
theorem allS_step (h : InvT I f) (hI : I bs) (hs : stepS bs = some bs') : allS bs = allS bs' := by
 have h1 := h.step bs bs' hI hs
 unfold allS
 obtain ⟨m, hm⟩ : ∃ m, mz bs = m + 1 := ⟨mz bs - 1, by omega⟩
 rw [hm, allF, hs]
 exact allF_more h m (mz bs') bs' h1.1 (by omega) (Nat.le_refl _)
theorem allS_none (hs : stepS bs = none) : allS bs = bs := by
 unfold allS
 cases mz bs with
 | zero => rfl
 | succ k => rw [allF, hs]
end
def AllPost (f : Fun) (w : World) (e : Ending) (w' : World) : Prop :=
 ∃ (T : Nat → Prop) (N : Nat) (c d : Value), e = .returned ((setBlocks f (allS f.blocks)).v c d) ∧ MF w' T N (setBlocks f (allS f.blocks)) c d ∧ (∀ k, T k → w.heap.size ≤ k) ∧ w.heap.size ≤ N ∧ (∀ k, c.ownBlock = some k → w.heap.size ≤ k) ∧ Below w.heap.size w w'
def Made (M : Nat) (w : World) (f : Fun) (bs : List (List Ins)) (c d : Value) : Prop := ∃ (T : Nat → Prop) (N : Nat), MF w T N (setBlocks f bs) c d ∧ (∀ k, T k → M ≤ k) ∧ M ≤ N ∧ (∀ k, c.ownBlock = some k → M ≤ k)
theorem Made.kept {M : Nat} {w w' : World} {f : Fun} {bs : List (List Ins)} {c d : Value} (h : Made M w f bs c d) (hk : ∀ k, M ≤ k → k < w.heap.size → w'.heap[k]? = w.heap[k]?) : Made M w' f bs c d := by
 obtain ⟨T, N, h1, h2, h3, h4⟩ := h
 refine ⟨T, N, h1.kept fun k hk1 hk2 => hk k ?_ hk1, h2, h3, h4⟩
 rcases hk2 with h5 | h5 | h5
 ·exact h2 k h5
 ·omega
 ·exact h4 k h5
theorem Made.forms {M : Nat} {w : World} {f : Fun} {bs : List (List Ins)} {c d : Value} (h : Made M w f bs c d) : ∃ Ac nc Cc Ad nd Cd, c = .slice Ac nc Cc ∧ d = .slice Ad nd Cd := by
 obtain ⟨T, N, h1, -⟩ := h
 obtain ⟨A, C, h2⟩ := row_form h1.par.row
 obtain ⟨xs, ess, hk, -⟩ := h1.tree
 obtain ⟨A', C', h3⟩ := row_form hk.row
 exact ⟨_, _, _, _, _, _, h2, h3⟩
theorem Made.rep {M : Nat} {w : World} {f : Fun} {bs : List (List Ins)} {c d : Value} (h : Made M w f bs c d) : RFun.rep w w.heap.size [.string f.name, c, .int .i64 f.ret, d] (setBlocks f bs) := by
 obtain ⟨T, N, h1, -⟩ := h
 exact h1.rep
theorem StepPost.made {f : Fun} {bs : List (List Ins)} {w w' : World} {e : Ending} {M : Nat} (h : StepPost (setBlocks f bs) w e w') (hM : M ≤ w.heap.size) : ∃ c d, e = .returned (.tuple #[.agg #[.string f.name, c, .int .i64 f.ret, d], .bool (stepS bs).isSome]) ∧ Made M w' f ((stepS bs).getD bs) c d ∧ Below w.heap.size w w' := by
 obtain ⟨T, N, c, d, h1, h2, h3, h4, h5, h6⟩ := h
 exact ⟨c, d, h1, ⟨T, N, h2, fun k hk => Nat.le_trans hM (h3 k hk), Nat.le_trans hM h4, fun k hk => Nat.le_trans hM (h5 k hk)⟩, h6⟩
def ghost (b : Bool) (bs : List (List Ins)) : Nat := if b then mz bs + 1 else 0
theorem after_step {I : List (List Ins) → Prop} {f : Fun} {bs : List (List Ins)} (h : InvT I f) (hI : I bs) : I ((stepS bs).getD bs) ∧ allS ((stepS bs).getD bs) = allS bs ∧ ((stepS bs).isSome = false → stepS ((stepS bs).getD bs) = none) ∧ ghost (stepS bs).isSome ((stepS bs).getD bs) < ghost true bs := by
 unfold ghost
 cases hs : stepS bs with
 | none => exact ⟨hI, rfl, fun _ => hs, by simp⟩
 | some bs' =>
  have h1 := h.step bs bs' hI hs
  exact ⟨h1.1, (allS_step h hI hs).symm, fun e => by simp at e, by simp; omega⟩
theorem all_fin {f : Fun} {bs : List (List Ins)} {w w' : World} {M N : Nat} {c d : Value} (h : Made M w' f bs c d) (hbs : allS f.blocks = bs) (hM : w.heap.size ≤ M) (hNM : N + 1 < M) (hN : N = w.heap.size) (hB : Below w.heap.size w w') :
  AllPost f w (.returned (.agg #[.string f.name, c, .int .i64 f.ret, d])) ((((w'.setCell ⟨N + 1, 0, none⟩ (.string f.name)).setCell ⟨N + 1, 1, none⟩ c).setCell ⟨N + 1, 2, none⟩ (.int .i64 f.ret)).setCell ⟨N + 1, 3, none⟩ d) := by
 have h9 : Made M ((((w'.setCell ⟨N + 1, 0, none⟩ (.string f.name)).setCell ⟨N + 1, 1, none⟩ c).setCell ⟨N + 1, 2, none⟩ (.int .i64 f.ret)).setCell ⟨N + 1, 3, none⟩ d) f bs c d := h.kept fun k h1 _ => by
  have h2 : k ≠ N + 1 := by omega
  rw [Below.heap_setCell _ ⟨N + 1, 3, none⟩ _ _ h2, Below.heap_setCell _ ⟨N + 1, 2, none⟩ _ _ h2, Below.heap_setCell _ ⟨N + 1, 1, none⟩ _ _ h2, Below.heap_setCell _ ⟨N + 1, 0, none⟩ _ _ h2]
 have h1 : w.heap.size ≤ N + 1 := by omega
 obtain ⟨T, N', h2, h3, h4, h5⟩ := h9
 subst hbs
 exact ⟨T, N', c, d, rfl, h2, fun k hk => Nat.le_trans hM (h3 k hk), Nat.le_trans hM h4, fun k hk => Nat.le_trans hM (h5 k hk), (((hB.setCell (p := ⟨N + 1, 0, none⟩) h1 _).setCell (p := ⟨N + 1, 1, none⟩) h1 _).setCell (p := ⟨N + 1, 2, none⟩) h1 _).setCell (p := ⟨N + 1, 3, none⟩) h1 _⟩
theorem put4 {w : World} {N : Nat} {x0 x1 x2 x3 y0 y1 y2 y3 : Value} {t : TypeId} (h : w.heap[N]? = some (.cells #[x0, x1, x2, x3] t (0, 0))) : ((((w.setCell ⟨N, 0, none⟩ y0).setCell ⟨N, 1, none⟩ y1).setCell ⟨N, 2, none⟩ y2).setCell ⟨N, 3, none⟩ y3).heap[N]? = some (.cells #[y0, y1, y2, y3] t (0, 0)) := by
 have h0 := heap_setCell_same w N 0 _ _ y0 h
 have h1 := heap_setCell_same _ N 1 _ _ y1 h0
 have h2 := heap_setCell_same _ N 2 _ _ y2 h1
 have h3 := heap_setCell_same _ N 3 _ _ y3 h2
 simpa using h3
set_option maxRecDepth 100000 in
set_option maxHeartbeats 12000000 in
theorem tall_any {I : List (List Ins) → Prop} (f : Fun) (hinv : InvT I f) (hI0 : I f.blocks) (c1 d1 : Value) (w : World) (B : Nat) (hB : B ≤ w.heap.size) (hf : RFun.rep w B [.string f.name, c1, .int .i64 f.ret, d1] f) :
  Calls Try.prog 19 #[f.v c1 d1] w (AllPost f w) := by
 obtain ⟨W, hW, hwW, hWs, hx, hy⟩ := boxes2 w #[.string f.name, c1, .int .i64 f.ret, d1] #[.string ⟨#[]⟩, .slice none 0 0, .int .i64 0, .slice none 0 0] 32 32
 have cS : Hid (Calls Try.prog 20 #[f.v c1 d1] W (fun e w' => ∃ c d, e = .returned (.tuple #[.agg #[.string f.name, c, .int .i64 f.ret, d], .bool (stepS f.blocks).isSome]) ∧ Made W.heap.size w' f ((stepS f.blocks).getD f.blocks) c d ∧ Below W.heap.size W w')) := hide ((tstep_any f c1 d1 W B (by omega) (Rp.later hf (hwW.mono hB) (Nat.le_refl _)) (hinv.small _ hI0) (hinv.wf _ hI0) (hinv.fr _ hI0)).mono fun e w' h => h.made (Nat.le_refl _))
 have q0 : ∀ w', Below W.heap.size W w' → w'.cell? ⟨w.heap.size, 0, none⟩ = some (.string f.name) := hx 0 _ rfl
 have q1 : ∀ w', Below W.heap.size W w' → w'.cell? ⟨w.heap.size, 1, none⟩ = some c1 := hx 1 _ rfl
 have q2 : ∀ w', Below W.heap.size W w' → w'.cell? ⟨w.heap.size, 2, none⟩ = some (.int .i64 f.ret) := hx 2 _ rfl
 have q3 : ∀ w', Below W.heap.size W w' → w'.cell? ⟨w.heap.size, 3, none⟩ = some d1 := hx 3 _ rfl
 have hbN : Hid (W.heap[w.heap.size]? = some (.cells #[.string f.name, c1, .int .i64 f.ret, d1] 32 (0, 0))) := hide (by rw [← hW]; exact box_under _ _ _)
 have hbR : Hid (W.heap[w.heap.size + 1]? = some (.cells #[.string ⟨#[]⟩, .slice none 0 0, .int .i64 0, .slice none 0 0] 32 (0, 0))) := hide (by rw [← hW]; have := box_top (w.alloc (.cells #[.string f.name, c1, .int .i64 f.ret, d1] 32)) (.cells #[.string ⟨#[]⟩, .slice none 0 0, .int .i64 0, .slice none 0 0] 32); simpa using this)
 have hself := Below.refl W.heap.size W
 have hwWs : w.heap.size + 1 < W.heap.size := by omega
 replace hWs := hide hWs
 replace hwW := hide hwW
 replace hW := hide hW
 replace hf := hide hf
 replace hinv := hide hinv
 replace hI0 := hide hI0
 clear hx hy
 obtain ⟨N, hN⟩ : ∃ N, Hid (N = w.heap.size) := ⟨_, hide rfl⟩
 go_enter Try.func19, Try.ntmps19
 go_upto_region 1 with (fail)
 rw [hW.out]
 rw [← hN.out] at hwWs q0 q1 q2 q3 hbN hbR ⊢
 obtain ⟨st, hst⟩ : ∃ st, Hid (st = (stepS f.blocks).isSome) := ⟨_, hide rfl⟩
 rw [← hst.out] at cS
 go_wp2_with (fail)
 refine cS.out.mono ?_
 rintro e w1 ⟨c, d, rfl, hm1, hb1⟩
 obtain ⟨Ac, nc, Cc, Ad, nd, Cd, hcf, hdf⟩ := hm1.forms
 subst hcf hdf
 have hW1s := hb1.size
 have hN1 : Hid (w1.heap[N]? = some (.cells #[.string f.name, c1, .int .i64 f.ret, d1] 32 (0, 0))) := hide ((hb1.block N (by omega)).trans hbN.out)
 have hR1 : Hid (w1.heap[N + 1]? = some (.cells #[.string ⟨#[]⟩, .slice none 0 0, .int .i64 0, .slice none 0 0] 32 (0, 0))) := hide ((hb1.block (N + 1) (by omega)).trans hbR.out)
 have n0 := box_cell9 hN1.out 0 rfl
 have n1 := box_cell9 hN1.out 1 rfl
 have n2 := box_cell9 hN1.out 2 rfl
 have n3 := box_cell9 hN1.out 3 rfl
 have nf : ∀ q, w1.frozen? ⟨N, q, none⟩ = false := fun q => by simp [World.frozen?, hN1.out]
 obtain ⟨w2, hw2⟩ : ∃ w2, Hid ((((w1.setCell ⟨N, 0, none⟩ (.string f.name)).setCell ⟨N, 1, none⟩ (.slice Ac nc Cc)).setCell ⟨N, 2, none⟩ (.int .i64 f.ret)).setCell ⟨N, 3, none⟩ (.slice Ad nd Cd) = w2) := ⟨_, hide rfl⟩
 have hbox2 : Hid (w2.heap[N]? = some (.cells #[.string f.name, .slice Ac nc Cc, .int .i64 f.ret, .slice Ad nd Cd] 32 (0, 0))) := hide (by rw [← hw2.out]; exact put4 hN1.out)
 have h2k : Hid (∀ k, k ≠ N → w2.heap[k]? = w1.heap[k]?) := hide (fun k h => by
  rw [← hw2.out, Below.heap_setCell _ ⟨N, 3, none⟩ _ _ h, Below.heap_setCell _ ⟨N, 2, none⟩ _ _ h, Below.heap_setCell _ ⟨N, 1, none⟩ _ _ h, Below.heap_setCell _ ⟨N, 0, none⟩ _ _ h])
 have hm2 : Hid (Made W.heap.size w2 f ((stepS f.blocks).getD f.blocks) (.slice Ac nc Cc) (.slice Ad nd Cd)) := hide (hm1.kept fun k h1 _ => h2k.out k (by omega))
 have h2o : Only (fun k => k = N) W.heap.size W w2 := by
  rw [← hw2.out]
  have a0 : Only (fun k => k = N) W.heap.size W w1 := Only.of_below hb1
  exact (((a0.setCell (p := ⟨N, 0, none⟩) (.inl rfl) _).setCell (p := ⟨N, 1, none⟩) (.inl rfl) _).setCell (p := ⟨N, 2, none⟩) (.inl rfl) _).setCell (p := ⟨N, 3, none⟩) (.inl rfl) _
 have has := after_step hinv.out hI0.out
 rw [← hst.out] at has
 have has0 := hide has.1
 have has1 := hide has.2.1
 have has2 := hide has.2.2.1
 clear has
 replace hm1 := hide hm1
 replace hb1 := hide hb1
 clear q0 q1 q2 q3 hself
 go_upto_region 2 with (fail)
 rw [hw2.out]
 clear n0 n1 n2 n3 nf
 go_loopg [3] (ghost st ((stepS f.blocks).getD f.blocks)) (fun k s wr => ∃ (bs : List (List Ins)) (b : Bool) (A1 : Option Addr) (m1 C1 : Nat) (A2 : Option Addr) (m2 C2 : Nat), s = .bool b ∧ Hid (ghost b bs = k) ∧ Hid (I bs) ∧ Hid (allS bs = allS f.blocks) ∧ Hid (b = false → stepS bs = none) ∧ Hid (Made W.heap.size wr f bs (.slice A1 m1 C1) (.slice A2 m2 C2)) ∧ Hid (wr.heap[N]? = some (.cells #[.string f.name, .slice A1 m1 C1, .int .i64 f.ret, .slice A2 m2 C2] 32 (0, 0))) ∧ Only (fun k => k = N) W.heap.size W wr)
 case atStart => exact ⟨(stepS f.blocks).getD f.blocks, st, _, _, _, _, _, _, rfl, hide rfl, has0, has1, has2, hm2, hbox2, h2o⟩
 case round =>
  clear hm2 hbox2 h2o has0 has1 has2
  rename World => V
  obtain ⟨bs, b, A1, m1, C1, A2, m2, C2, rfl, hgk, hI, hall, hfix, hm, hbox, hon⟩ := hrel
  have hVs := hon.size
  have n0 := box_cell9 hbox.out 0 rfl
  have n1 := box_cell9 hbox.out 1 rfl
  have n2 := box_cell9 hbox.out 2 rfl
  have n3 := box_cell9 hbox.out 3 rfl
  cases b with
  | true =>
   obtain ⟨st2, hst2⟩ : ∃ st2, Hid (st2 = (stepS bs).isSome) := ⟨_, hide rfl⟩
   have cS2 : Hid (Calls Try.prog 20 #[f.v (.slice A1 m1 C1) (.slice A2 m2 C2)] V (fun e w' => ∃ c d, e = .returned (.tuple #[.agg #[.string f.name, c, .int .i64 f.ret, d], .bool st2]) ∧ Made W.heap.size w' f ((stepS bs).getD bs) c d ∧ Below V.heap.size V w')) := hide (by
    rw [hst2.out]
    exact (tstep_any (setBlocks f bs) (.slice A1 m1 C1) (.slice A2 m2 C2) V V.heap.size (Nat.le_refl _) hm.out.rep (hinv.out.small _ hI.out) (hinv.out.wf _ hI.out) (hinv.out.fr _ hI.out)).mono fun e w' h => h.made hVs)
   go_wp2_with (fail)
   refine cS2.out.mono ?_
   rintro e w4 ⟨c, d, rfl, hm4, hb4⟩
   obtain ⟨Ac4, nc4, Cc4, Ad4, nd4, Cd4, hcf, hdf⟩ := hm4.forms
   subst hcf hdf
   have hbox4 : Hid (w4.heap[N]? = some (.cells #[.string f.name, .slice A1 m1 C1, .int .i64 f.ret, .slice A2 m2 C2] 32 (0, 0))) := hide ((hb4.block N (by omega)).trans hbox.out)
   have p0 := box_cell9 hbox4.out 0 rfl
   have p1 := box_cell9 hbox4.out 1 rfl
   have p2 := box_cell9 hbox4.out 2 rfl
   have p3 := box_cell9 hbox4.out 3 rfl
   have pf : ∀ q, w4.frozen? ⟨N, q, none⟩ = false := fun q => by simp [World.frozen?, hbox4.out]
   have hbox5 : Hid (((((w4.setCell ⟨N, 0, none⟩ (.string f.name)).setCell ⟨N, 1, none⟩ (.slice Ac4 nc4 Cc4)).setCell ⟨N, 2, none⟩ (.int .i64 f.ret)).setCell ⟨N, 3, none⟩ (.slice Ad4 nd4 Cd4)).heap[N]? = some (.cells #[.string f.name, .slice Ac4 nc4 Cc4, .int .i64 f.ret, .slice Ad4 nd4 Cd4] 32 (0, 0))) := hide (put4 hbox4.out)
   have hm5 : Hid (Made W.heap.size ((((w4.setCell ⟨N, 0, none⟩ (.string f.name)).setCell ⟨N, 1, none⟩ (.slice Ac4 nc4 Cc4)).setCell ⟨N, 2, none⟩ (.int .i64 f.ret)).setCell ⟨N, 3, none⟩ (.slice Ad4 nd4 Cd4)) f ((stepS bs).getD bs) (.slice Ac4 nc4 Cc4) (.slice Ad4 nd4 Cd4)) := hide (hm4.kept fun k h1 _ => by
    have h : k ≠ N := by omega
    rw [Below.heap_setCell _ ⟨N, 3, none⟩ _ _ h, Below.heap_setCell _ ⟨N, 2, none⟩ _ _ h, Below.heap_setCell _ ⟨N, 1, none⟩ _ _ h, Below.heap_setCell _ ⟨N, 0, none⟩ _ _ h])
   have hon4 : Only (fun k => k = N) W.heap.size W w4 := hon.next (Nat.le_refl _) (Only.of_below hb4)
   have hon5 : Only (fun k => k = N) W.heap.size W ((((w4.setCell ⟨N, 0, none⟩ (.string f.name)).setCell ⟨N, 1, none⟩ (.slice Ac4 nc4 Cc4)).setCell ⟨N, 2, none⟩ (.int .i64 f.ret)).setCell ⟨N, 3, none⟩ (.slice Ad4 nd4 Cd4)) := (((hon4.setCell (p := ⟨N, 0, none⟩) (.inl rfl) _).setCell (p := ⟨N, 1, none⟩) (.inl rfl) _).setCell (p := ⟨N, 2, none⟩) (.inl rfl) _).setCell (p := ⟨N, 3, none⟩) (.inl rfl) _
   have has := after_step hinv.out hI.out
   rw [← hst2.out] at has
   have ha0 := hide has.1
   have ha1 : Hid (allS ((stepS bs).getD bs) = allS f.blocks) := hide (has.2.1.trans hall.out)
   have ha2 := hide has.2.2.1
   have ha3 := hide has.2.2.2
   clear has
   replace hm4 := hide hm4
   replace hb4 := hide hb4
   clear n0 n1 n2 n3
   go_wp2
   go_roundg (ghost st2 ((stepS bs).getD bs))
   case measure => rw [← hgk.out]; exact ha3.out
   case rel => exact ⟨(stepS bs).getD bs, st2, _, _, _, _, _, _, rfl, hide rfl, ha0, ha1, ha2, hm5, hbox5, hon5⟩
  | false =>
   have hbs : Hid (allS f.blocks = bs) := hide (hall.out.symm.trans (allS_none (hfix.out rfl)))
   have hBw : Hid (Below w.heap.size w V) := hide (hwW.out.trans ((hon.mono hwW.out.size).to_below (B' := w.heap.size) (fun k hk => by have := hN.out; omega) (Nat.le_refl _)))
   have hRV : Hid (V.heap[N + 1]? = some (.cells #[.string ⟨#[]⟩, .slice none 0 0, .int .i64 0, .slice none 0 0] 32 (0, 0))) := hide ((hon.block (N + 1) (by omega) (by omega)).trans hbR.out)
   have hfin := hide (all_fin (w := w) (N := N) hm.out hbs.out hwW.out.size hwWs hN.out hBw.out)
   have v0 := box_cell9 hRV.out 0 rfl
   have v1 := box_cell9 hRV.out 1 rfl
   have v2 := box_cell9 hRV.out 2 rfl
   have v3 := box_cell9 hRV.out 3 rfl
   have vf : ∀ q, V.frozen? ⟨N + 1, q, none⟩ = false := fun q => by simp [World.frozen?, hRV.out]
   go_wp2
   try simp only [Exit.inBlock, Exit.then]
   refine bodyPost_ret (v := .agg #[.string f.name, .slice A1 m1 C1, .int .i64 f.ret, .slice A2 m2 C2]) ?_ rfl ?_
   ·simp [results, Try.results19, go_sem, v0, v1, v2, v3]
   ·exact hfin.out
end Go.Proofs.Ytamjcafjdioidaa
