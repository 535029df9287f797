/- Texts of the chain, without what is not wanted: TdU. No condition but sizes. -/
import Derived.WalkKit
import Derived.Deep.Slices
import Derived.Deep.Draws
import Derived.ChangeSame
import Derived.ChangeOld
import Derived.OwnWalk
import Derived.Laws.OwnMore
import Derived.Deep.AppendLies
import Derived.Test.YtamjcafjdioidaaRows
import Derived.ProofKit
import Derived.OpenShut
import Derived.JoinedCond
import Derived.WalkSpells
import Derived.WalkLawsBesides
import Derived.Deep.RegionHeld3
import Derived.Deep.LoopGhost
import Derived.Deep.QuietTactic
import Derived.BigQuiet
import Derived.Deep.DeepCutAuto
import Derived.Deep.CutBlock
import Derived.StillTailTactics
import Derived.Deep.RegionLaw
import Derived.Lib.SliceRun
import Derived.Laws.IdiomCopy
import Derived.Deep.MidRow
import Derived.Lib.Overlaps
import Derived.RegionTactic
import Derived.Deep.RegionLawGrows
import Derived.Test.YtamjcafjdioidaaUz01
import Derived.Test.YtamjcafjdioidaaUz02
import Derived.Test.YtamjcafjdioidaaUz03
import Derived.Test.YtamjcafjdioidaaUz04
import Derived.Test.YtamjcafjdioidaaUz05
import Derived.Test.YtamjcafjdioidaaUz06
import Derived.Test.YtamjcafjdioidaaUz07
import Derived.Test.YtamjcafjdioidaaUz08
import Derived.Test.YtamjcafjdioidaaUz09
import Derived.Test.YtamjcafjdioidaaUz10
import Derived.Test.YtamjcafjdioidaaUz11
import Derived.Test.YtamjcafjdioidaaUz12
import Derived.Test.YtamjcafjdioidaaUz13
import Derived.Test.YtamjcafjdioidaaUz14
import Derived.Test.YtamjcafjdioidaaUz15
import Derived.Test.YtamjcafjdioidaaUz16
import Derived.Test.YtamjcafjdioidaaUz17
import Derived.Test.YtamjcafjdioidaaUz18
import Derived.Test.YtamjcafjdioidaaUz19
import Derived.Test.YtamjcafjdioidaaUz20
import Derived.Test.YtamjcafjdioidaaUz21
import Derived.Test.YtamjcafjdioidaaUz22
import Derived.Test.YtamjcafjdioidaaUz23
import Derived.Test.YtamjcafjdioidaaUz24
import Derived.Test.YtamjcafjdioidaaUz25
import Derived.Test.YtamjcafjdioidaaUz26
import Derived.Test.YtamjcafjdioidaaUz27
import Derived.Test.YtamjcafjdioidaaUz28
import Derived.Test.YtamjcafjdioidaaUz29
namespace Go.Proofs.Ytamjcafjdioidaa
set_option linter.unusedVariables false
set_option linter.unusedSimpArgs false
def dropPhi (p : Int) (x : Ins) : Ins := if x.op = 25 then dropP p x else x
theorem dropPhi_op (p : Int) (x : Ins) : (dropPhi p x).op = x.op := by
 unfold dropPhi
 split
 ·exact dropP_op p x
 ·rfl
theorem fronts_tail {y : Ins} {l : List Ins} (h : Fronts (y :: l)) : Fronts l := fun i j x x' hi hj hij ho => h (i + 1) (j + 1) x x' (by simpa using hi) (by simpa using hj) (by omega) ho
theorem loseL_map {p : Int} : ∀ {l : List Ins}, Fronts l → loseL p l = l.map (dropPhi p)
 | [], _ => by simp [loseL]
 | y :: l, h => by
  by_cases ho : y.op = 25
  ·have hy : isPhi y = true := by unfold isPhi; rw [beq_iff_eq]; exact ho
   have ih := loseL_map (p := p) (fronts_tail h)
   unfold loseL at ih ⊢
   rw [List.takeWhile_cons, List.dropWhile_cons, hy, if_pos rfl, if_pos rfl, List.map_cons, List.cons_append, ih, List.map_cons]
   congr 1
   unfold dropPhi
   rw [if_pos ho]
  ·have hy : isPhi y = false := by unfold isPhi; rw [beq_eq_false_iff_ne]; exact ho
   have hno := fronts_none h (by simpa using ho)
   unfold loseL
   rw [List.takeWhile_cons, List.dropWhile_cons, hy, if_neg (by decide), if_neg (by decide), List.map_nil, List.nil_append]
   exact ((List.map_congr_left (g := id) fun x hx => by unfold dropPhi; rw [if_neg (hno x hx)]; rfl).trans (List.map_id _)).symm
theorem dropP_mem {p q : Int} {x : Ins} (hs : x.to.Pairwise (· < ·)) : q ∈ (dropP p x).to ↔ q ∈ x.to ∧ q ≠ p := by
 have hnd : x.to.Nodup := hs.imp (fun {a b} h => by omega)
 unfold dropP
 by_cases hp : p ∈ x.to
 ·rw [if_pos hp]
  show q ∈ x.to.eraseIdx (x.to.idxOf p) ↔ _
  rw [← List.erase_eq_eraseIdx_of_idxOf rfl, hnd.mem_erase_iff]
  constructor
  ·rintro ⟨h1, h2⟩; exact ⟨h2, h1⟩
  ·rintro ⟨h1, h2⟩; exact ⟨h2, h1⟩
 ·rw [if_neg hp]
  constructor
  ·intro h; exact ⟨h, fun e => hp (e ▸ h)⟩
  ·rintro ⟨h, -⟩; exact h
theorem dropP_sub (p : Int) (x : Ins) : (dropP p x).to.Sublist x.to := by
 unfold dropP
 split
 ·exact List.eraseIdx_sublist _ _
 ·exact List.Sublist.refl _
theorem LInv.lose {n : Nat} {l : List Ins} (h : LInv n l) (p : Int) : LInv n (l.map (dropPhi p)) := by
 have hne : ∀ x, x.op ≠ 25 → dropPhi p x = x := fun x ho => by unfold dropPhi; rw [if_neg ho]
 have he : ∀ x, x.op = 25 → dropPhi p x = dropP p x := fun x ho => by unfold dropPhi; rw [if_pos ho]
 refine h.map (dropPhi p) (dropPhi_op p) (fun x _ ho => by rw [hne x ho]) (fun x _ ho => by rw [hne x ho]) (fun x hx ho => ?_) (fun x hx ho => ?_) (fun x hx t ht => ?_) (fun x hx t ht => ?_) (fun x hx ho => ?_)
 ·rw [he x ho]; exact phiLen_drop (h.wf.phi x hx ho)
 ·rw [he x ho]; exact (h.srt x hx ho).sublist (dropP_sub p x)
 ·by_cases ho : x.op = 25
  ·rw [he x ho] at ht; exact h.wf.to_ x hx t (dropP_to ht)
  ·rw [hne x ho] at ht; exact h.wf.to_ x hx t ht
 ·obtain ⟨h1, -, h3⟩ := h.fin x hx
  rw [hne x h1] at ht
  exact h3 t ht
 ·rw [he x ho]; exact (dropP_sub p x).length_le
theorem setEnd_eq {l ys : List Ins} {x y : Ins} (h : l = ys ++ [x]) : setEnd l y = ys ++ [y] := by
 subst h
 unfold setEnd
 rw [List.length_append, List.length_singleton, Nat.add_sub_cancel, List.set_append_right _ _ (Nat.le_refl _), Nat.sub_self, List.set_cons_zero]
theorem endI_set {bs : List (List Ins)} {b p : Nat} {l l' : List Ins} (hb : bs[b]? = some l) : endI (bs.set b l') p = if p = b then l'.getLast? else endI bs p := by
 have hbl := (List.getElem?_eq_some_iff.1 hb).1
 by_cases e : p = b
 ·subst e
  rw [if_pos rfl, endI_last (l := l') (by rw [List.getElem?_set_self hbl])]
 ·rw [if_neg e]
  unfold endI
  rw [List.getElem?_set_ne (Ne.symm e)]
theorem LInv.setEnd {n : Nat} {l : List Ins} (h : LInv n l) {t : Int} (ht : 1 ≤ t ∧ t < n) : LInv n (setEnd l (brJ t)) := by
 obtain ⟨x, hx⟩ : ∃ x, l.getLast? = some x := by
  cases hl : l.getLast? with
  | none => exact absurd (List.getLast?_eq_none_iff.1 hl) h.wf.ne
  | some x => exact ⟨x, rfl⟩
 obtain ⟨ys, hys⟩ := List.getLast?_eq_some_iff.1 hx
 rw [setEnd_eq hys]
 have hin : ∀ y, y ∈ ys ++ [brJ t] → y ∈ l ∨ y = brJ t := fun y hy => by
  rcases List.mem_append.1 hy with h1 | h1
  ·left; rw [hys]; exact List.mem_append_left _ h1
  ·right; exact List.mem_singleton.1 h1
 have hop : (brJ t).op = 31 := rfl
 refine ⟨⟨by simp, fun y hy ho => ?_, fun y hy ho => ?_, fun y hy ho => ?_, fun y hy s hs => ?_⟩, fun i j y z hi hj hij ho => ?_, fun i y hi hl => ?_, fun y hy => ?_, fun y hy ho => ?_, fun y hy => ?_⟩
 ·rcases hin y hy with h1 | h1
  ·exact h.wf.brif y h1 ho
  ·rw [h1, hop] at ho; omega
 ·rcases hin y hy with h1 | h1
  ·exact h.wf.br y h1 ho
  ·rw [h1]; rfl
 ·rcases hin y hy with h1 | h1
  ·exact h.wf.phi y h1 ho
  ·rw [h1, hop] at ho; omega
 ·rcases hin y hy with h1 | h1
  ·exact h.wf.to_ y h1 s hs
  ·rw [h1] at hs
   have : s = t := List.mem_singleton.1 hs
   omega
 ·have hjl : j < ys.length := by
   rcases Nat.lt_or_ge j ys.length with h1 | h1
   ·exact h1
   ·rw [List.getElem?_append_right h1] at hj
    have h2 := (List.getElem?_eq_some_iff.1 hj).1
    simp only [List.length_singleton] at h2
    rw [show j - ys.length = 0 by omega] at hj
    cases hj
    rw [hop] at ho
    omega
  rw [List.getElem?_append_left hjl] at hj
  rw [List.getElem?_append_left (by omega)] at hi
  exact h.fr i j y z (by rw [hys, List.getElem?_append_left (by omega)]; exact hi) (by rw [hys, List.getElem?_append_left hjl]; exact hj) hij ho
 ·rw [List.length_append, List.length_singleton] at hl
  rw [List.getElem?_append_left (by omega)] at hi
  exact h.mid i y (by rw [hys, List.getElem?_append_left (by omega)]; exact hi) (by rw [hys, List.length_append, List.length_singleton]; omega)
 ·rw [List.getLast?_concat] at hy
  cases hy
  refine ⟨by rw [hop]; omega, .inl hop, fun s hs => ?_⟩
  have : s = t := List.mem_singleton.1 hs
  omega
 ·rcases hin y hy with h1 | h1
  ·exact h.srt y h1 ho
  ·rw [h1, hop] at ho; omega
 ·rcases hin y hy with h1 | h1
  ·exact h.sz y h1
  ·rw [h1]; exact ⟨by simp [brJ], by simp [brJ]⟩
theorem wt_setEnd {l : List Ins} {x y : Ins} (hx : l.getLast? = some x) (h32 : x.op = 32) (hy : y.op ≠ 32) : wt (setEnd l y) + 1 = wt l := by
 obtain ⟨ys, hys⟩ := List.getLast?_eq_some_iff.1 hx
 rw [setEnd_eq hys, hys]
 unfold wt
 rw [List.length_append, List.length_append, List.countP_append, List.countP_append]
 have e1 : List.countP (fun x => x.op == 32) [x] = 1 := by simp [h32]
 have e2 : List.countP (fun x => x.op == 32) [y] = 0 := by simp [hy]
 rw [e1, e2]
 simp only [List.length_singleton]
 omega
theorem TInv.jump {bs : List (List Ins)} (h : TInv bs) {b : Nat} {l : List Ins} {x : Ins} (hb : bs[b]? = some l) (hx : l.getLast? = some x) (h32 : x.op = 32) {t o : Int} (ht : ∀ c, c ∈ x.to ↔ c = t ∨ c = o) :
  mz (bs.set b (setEnd l (brJ t))) < mz bs ∧ (o = t → TInv (bs.set b (setEnd l (brJ t)))) ∧ (o ≠ t → TInv (loseB b (bs.set b (setEnd l (brJ t))) o.toNat)) ∧ mz (loseB b (bs.set b (setEnd l (brJ t))) o.toNat) < mz bs := by
 have hbl := (List.getElem?_eq_some_iff.1 hb).1
 have hL := h.loc b l hb
 have hxm := List.mem_of_getLast? hx
 have htr : 1 ≤ t ∧ t < bs.length := ⟨(hL.fin x hx).2.2 t ((ht t).2 (.inl rfl)), (hL.wf.to_ x hxm t ((ht t).2 (.inl rfl))).2⟩
 have hor : 1 ≤ o ∧ o < bs.length := ⟨(hL.fin x hx).2.2 o ((ht o).2 (.inr rfl)), (hL.wf.to_ x hxm o ((ht o).2 (.inr rfl))).2⟩
 have hL1 := hL.setEnd htr
 obtain ⟨ys, hys⟩ := List.getLast?_eq_some_iff.1 hx
 have hlast1 : (setEnd l (brJ t)).getLast? = some (brJ t) := by rw [setEnd_eq hys, List.getLast?_concat]
 have hend : ∀ p c, EndTo (bs.set b (setEnd l (brJ t))) p c ↔ (p = b ∧ c = t) ∨ (p ≠ b ∧ EndTo bs p c) := fun p c => by
  unfold EndTo
  rw [endI_set hb]
  by_cases e : p = b
  ·rw [if_pos e, hlast1]
   constructor
   ·rintro ⟨y, hy, h1, h2⟩
    cases hy
    exact .inl ⟨e, List.mem_singleton.1 h2⟩
   ·rintro (⟨-, h1⟩ | ⟨h1, -⟩)
    ·exact ⟨brJ t, rfl, .inl rfl, List.mem_singleton.2 h1⟩
    ·exact absurd e h1
  ·rw [if_neg e]
   constructor
   ·intro h1; exact .inr ⟨e, h1⟩
   ·rintro (⟨h1, -⟩ | ⟨-, h1⟩)
    ·exact absurd h1 e
    ·exact h1
 have hbend : ∀ c, EndTo bs b c ↔ c = t ∨ c = o := fun c => by
  unfold EndTo
  rw [endI_last hb, hx]
  constructor
  ·rintro ⟨y, hy, -, h2⟩
   cases hy
   exact (ht c).1 h2
  ·intro h1
   exact ⟨x, rfl, .inr h32, (ht c).2 h1⟩
 have hm1 : mz (bs.set b (setEnd l (brJ t))) + 1 = mz bs := by
  have h1 := mz_set (l' := setEnd l (brJ t)) hb
  have h2 := wt_setEnd (y := brJ t) hx h32 (by show (31 : Int) ≠ 32; omega)
  omega
 have hloc1 : ∀ (c : Nat) l', (bs.set b (setEnd l (brJ t)))[c]? = some l' → LInv bs.length l' ∧ ∃ l0, bs[c]? = some l0 ∧ ∀ y, y ∈ l' → y.op = 25 → y ∈ l0 := fun c l' hl' => by
  by_cases e : c = b
  ·subst e
   rw [List.getElem?_set_self hbl] at hl'
   cases hl'
   refine ⟨hL1, l, hb, fun y hy ho => ?_⟩
   rw [setEnd_eq hys] at hy
   rcases List.mem_append.1 hy with h1 | h1
   ·rw [hys]; exact List.mem_append_left _ h1
   ·rw [List.mem_singleton.1 h1] at ho
    have : (31 : Int) = 25 := ho
    omega
  ·rw [List.getElem?_set_ne (Ne.symm e)] at hl'
   exact ⟨h.loc c l' hl', l', hl', fun y hy _ => hy⟩
 have hoc : o.toNat < (bs.set b (setEnd l (brJ t))).length := by rw [List.length_set]; omega
 have hlo : (bs.set b (setEnd l (brJ t)))[o.toNat]? = some ((bs.set b (setEnd l (brJ t))).getD o.toNat []) := getD_at hoc
 have hlos := loseL_map (p := (b : Int)) (hloc1 _ _ hlo).1.fr
 have hm2 : mz (loseB b (bs.set b (setEnd l (brJ t))) o.toNat) = mz (bs.set b (setEnd l (brJ t))) := by
  unfold loseB
  have h1 := mz_set (l' := loseL (b : Int) ((bs.set b (setEnd l (brJ t))).getD o.toNat [])) hlo
  rw [hlos, wt_map (dropPhi_op _)] at h1
  rw [hlos]
  omega
 refine ⟨by omega, fun e => ?_, fun e => ?_, by omega⟩
 ·refine ⟨by rw [List.length_set]; exact h.pos, by have := h.size; omega, fun c l' hl' => by rw [List.length_set]; exact (hloc1 c l' hl').1, fun c l' hl' y hy ho => ?_⟩
  obtain ⟨-, l0, h0, h1⟩ := hloc1 c l' hl'
  obtain ⟨h2, h3⟩ := h.phi c l0 h0 y (h1 y hy ho) ho
  refine ⟨h2, fun p => ?_⟩
  rw [h3 p, hend]
  by_cases e1 : p.toNat = b
  ·rw [e1, hbend]
   constructor
   ·rintro ⟨h4, h5⟩; exact ⟨h4, .inl ⟨rfl, by omega⟩⟩
   ·rintro ⟨h4, h5 | h5⟩
    ·exact ⟨h4, .inl h5.2⟩
    ·exact absurd rfl h5.1
  ·constructor
   ·rintro ⟨h4, h5⟩; exact ⟨h4, .inr ⟨e1, h5⟩⟩
   ·rintro ⟨h4, h5 | h5⟩
    ·exact absurd h5.1 e1
    ·exact ⟨h4, h5.2⟩
 ·have hat : ∀ (c : Nat) l', (loseB b (bs.set b (setEnd l (brJ t))) o.toNat)[c]? = some l' → ∃ l1, (bs.set b (setEnd l (brJ t)))[c]? = some l1 ∧ ((c = o.toNat ∧ l' = l1.map (dropPhi b)) ∨ (c ≠ o.toNat ∧ l' = l1)) := fun c l' hl' => by
   unfold loseB at hl'
   by_cases e1 : c = o.toNat
   ·subst e1
    rw [List.getElem?_set_self hoc, hlos] at hl'
    cases hl'
    exact ⟨_, hlo, .inl ⟨rfl, rfl⟩⟩
   ·rw [List.getElem?_set_ne (Ne.symm e1)] at hl'
    exact ⟨l', hl', .inr ⟨e1, rfl⟩⟩
  have hendL : ∀ p c, EndTo (loseB b (bs.set b (setEnd l (brJ t))) o.toNat) p c ↔ EndTo (bs.set b (setEnd l (brJ t))) p c := fun p c => by
   unfold EndTo loseB
   rw [endI_set hlo]
   by_cases e1 : p = o.toNat
   ·subst e1
    rw [if_pos rfl, hlos, endI_last hlo, List.getLast?_map]
    cases hq : ((bs.set b (setEnd l (brJ t))).getD o.toNat []).getLast? with
    | none => simp
    | some y =>
     have hne := ((hloc1 _ _ hlo).1.fin y hq).1
     have hd : dropPhi b y = y := by unfold dropPhi; rw [if_neg hne]
     simp only [Option.map_some, hd]
   ·rw [if_neg e1]
  have hlenL : (loseB b (bs.set b (setEnd l (brJ t))) o.toNat).length = bs.length := by rw [loseB_len, List.length_set]
  refine ⟨by rw [hlenL]; exact h.pos, by have := h.size; omega, fun c l' hl' => ?_, fun c l' hl' y hy ho => ?_⟩
  ·rw [hlenL]
   obtain ⟨l1, h1, ⟨-, h2⟩ | ⟨-, h2⟩⟩ := hat c l' hl'
   ·rw [h2]; exact (hloc1 c l1 h1).1.lose b
   ·rw [h2]; exact (hloc1 c l1 h1).1
  ·obtain ⟨l1, h1, h2⟩ := hat c l' hl'
   obtain ⟨hi, l0, h0, h01⟩ := hloc1 c l1 h1
   rcases h2 with ⟨hc, rfl⟩ | ⟨hc, rfl⟩
   ·obtain ⟨z, hz, rfl⟩ := List.mem_map.1 hy
    rw [dropPhi_op] at ho
    obtain ⟨g1, g2⟩ := h.phi c l0 h0 z (h01 z hz ho) ho
    refine ⟨g1, fun p => ?_⟩
    have hd : dropPhi b z = dropP b z := by unfold dropPhi; rw [if_pos ho]
    rw [hd, dropP_mem (hi.srt z hz ho), g2 p, hendL, hend]
    constructor
    ·rintro ⟨⟨h4, h5⟩, h6⟩; exact ⟨h4, .inr ⟨by omega, h5⟩⟩
    ·rintro ⟨h4, h5 | h5⟩
     ·omega
     ·exact ⟨⟨h4, h5.2⟩, by omega⟩
   ·obtain ⟨g1, g2⟩ := h.phi c l0 h0 y (h01 y hy ho) ho
    refine ⟨g1, fun p => ?_⟩
    rw [g2 p, hendL, hend]
    by_cases e1 : p.toNat = b
    ·rw [e1, hbend]
     constructor
     ·rintro ⟨h4, h5⟩; exact ⟨h4, .inl ⟨rfl, by omega⟩⟩
     ·rintro ⟨h4, h5 | h5⟩
      ·exact ⟨h4, .inl h5.2⟩
      ·exact absurd rfl h5.1
    ·constructor
     ·rintro ⟨h4, h5⟩; exact ⟨h4, .inr ⟨e1, h5⟩⟩
     ·rintro ⟨h4, h5 | h5⟩
      ·exact absurd h5.1 e1
      ·exact ⟨h4, h5.2⟩
theorem TInv.decided {bs bs' : List (List Ins)} {R : List Bool} (h : TInv bs) (hd : decidedS R bs = some bs') : TInv bs' ∧ mz bs' < mz bs := by
 unfold decidedS at hd
 cases hf : (List.range bs.length).find? (dcB R bs) with
 | none => rw [hf] at hd; cases hd
 | some b =>
  rw [hf] at hd
  cases hd
  obtain ⟨h1, h2, -⟩ := List.find?_range_eq_some.1 hf
  have hbl := List.mem_range.1 h2
  have hb : bs[b]? = some (bs.getD b []) := getD_at hbl
  unfold dcB at h1
  cases he : endI bs b with
  | none => rw [he] at h1; simp at h1
  | some x =>
   rw [he] at h1
   have h32 : x.op = 32 := by simp at h1; exact h1.2.1
   have hx : (bs.getD b []).getLast? = some x := by rw [← endI_last hb]; exact he
   have hxm := List.mem_of_getLast? hx
   obtain ⟨hto, -⟩ := (h.loc b _ hb).wf.brif x hxm h32
   obtain ⟨t0, t1, hto⟩ : ∃ t0 t1, x.to = [t0, t1] := by
    match h9 : x.to, hto with
    | [a, b], _ => exact ⟨a, b, rfl⟩
   obtain ⟨t, o, hgo, ht⟩ : ∃ t o, goesI x = (t, o) ∧ ∀ c, c ∈ x.to ↔ c = t ∨ c = o := by
    unfold goesI
    rw [hto]
    split
    ·exact ⟨t0, t1, rfl, fun c => by simp⟩
    ·exact ⟨t1, t0, rfl, fun c => by simp [or_comm]⟩
   obtain ⟨g1, g2, g3, g4⟩ := h.jump hb hx h32 ht
   simp only [he, Option.map_some, Option.getD_some, hgo]
   unfold decAt
   by_cases e : o = t
   ·rw [if_pos e]; exact ⟨g2 e, g1⟩
   ·rw [if_neg e]; exact ⟨g3 e, g4⟩
theorem TInv.twice {bs bs' : List (List Ins)} {R : List Bool} (h : TInv bs) (hd : twiceS R bs = some bs') : TInv bs' ∧ mz bs' < mz bs := by
 unfold twiceS at hd
 cases hf : (List.range bs.length).find? (twB R bs) with
 | none => rw [hf] at hd; cases hd
 | some b =>
  rw [hf] at hd
  cases hd
  obtain ⟨h1, h2, -⟩ := List.find?_range_eq_some.1 hf
  have hbl := List.mem_range.1 h2
  have hb : bs[b]? = some (bs.getD b []) := getD_at hbl
  unfold twB at h1
  cases he : endI bs b with
  | none => rw [he] at h1; simp at h1
  | some x =>
   rw [he] at h1
   have h32 : x.op = 32 := by simp at h1; exact h1.2.1
   have htt : x.to.getD 0 0 = x.to.getD 1 0 := by simp only [Bool.and_eq_true, decide_eq_true_eq] at h1; exact h1.2.2
   have hx : (bs.getD b []).getLast? = some x := by rw [← endI_last hb]; exact he
   have hxm := List.mem_of_getLast? hx
   obtain ⟨hto, -⟩ := (h.loc b _ hb).wf.brif x hxm h32
   obtain ⟨t0, t1, hto⟩ : ∃ t0 t1, x.to = [t0, t1] := by
    match h9 : x.to, hto with
    | [a, b], _ => exact ⟨a, b, rfl⟩
   rw [hto] at htt
   have e : t0 = t1 := by simpa using htt
   obtain ⟨g1, g2, -, -⟩ := h.jump hb hx h32 (t := t0) (o := t1) (fun c => by rw [hto]; simp)
   simp only [he, Option.map_some, Option.getD_some, hto, List.getD_eq_getElem?_getD, List.getElem?_cons_zero]
   rw [List.getD_eq_getElem?_getD] at g1 g2
   exact ⟨g2 e.symm, g1⟩
theorem phi_front {l : List Ins} {i : Nat} {x : Ins} (hi : i < (l.takeWhile isPhi).length) (hx : l[i]? = some x) : x.op = 25 := by
 induction l generalizing i with
 | nil => simp at hx
 | cons y l ih =>
  rw [List.takeWhile_cons] at hi
  split at hi
  ·rename_i hy
   cases i with
   | zero => cases hx; simpa [isPhi] using hy
   | succ i => exact ih (by simpa using hi) (by simpa using hx)
  ·simp at hi
theorem LInv.erase {n i : Nat} {l : List Ins} {x : Ins} (h : LInv n l) (hx : l[i]? = some x) (h25 : x.op = 25) : LInv n (l.eraseIdx i) ∧ (l.eraseIdx i).getLast? = l.getLast? := by
 have hil := (List.getElem?_eq_some_iff.1 hx).1
 have hlen : (l.eraseIdx i).length = l.length - 1 := by rw [List.length_eraseIdx, if_pos hil]
 have hnl : i + 1 < l.length := by
  rcases Nat.lt_or_ge (i + 1) l.length with h1 | h1
  ·exact h1
  ·have h2 : l.getLast? = some x := by rw [List.getLast?_eq_getElem?, show l.length - 1 = i by omega]; exact hx
   exact absurd h25 (h.fin x h2).1
 have hlast : (l.eraseIdx i).getLast? = l.getLast? := by
  rw [List.getLast?_eq_getElem?, List.getLast?_eq_getElem?, hlen, List.getElem?_eraseIdx, if_neg (by omega)]
  congr 1
  omega
 have hmem : ∀ y, y ∈ l.eraseIdx i → y ∈ l := fun y hy => List.mem_of_mem_eraseIdx hy
 refine ⟨⟨⟨?_, fun y hy => h.wf.brif y (hmem y hy), fun y hy => h.wf.br y (hmem y hy), fun y hy => h.wf.phi y (hmem y hy), fun y hy => h.wf.to_ y (hmem y hy)⟩, fun a b y z ha hb hab ho => ?_, fun a y ha hl => ?_, fun y hy => h.fin y (by rw [← hlast]; exact hy), fun y hy => h.srt y (hmem y hy), fun y hy => h.sz y (hmem y hy)⟩, hlast⟩
 ·intro e
  rw [e] at hlen
  simp at hlen
  omega
 ·rw [List.getElem?_eraseIdx] at ha hb
  split at ha
  ·split at hb
   ·exact h.fr a b y z ha hb hab ho
   ·exact h.fr a (b + 1) y z ha hb (by omega) ho
  ·split at hb
   ·omega
   ·exact h.fr (a + 1) (b + 1) y z ha hb (by omega) ho
 ·rw [List.getElem?_eraseIdx] at ha
  rw [hlen] at hl
  split at ha
  ·exact h.mid a y ha (by omega)
  ·exact h.mid (a + 1) y ha (by omega)
theorem subIns_to (σ : Opd → Opd) (x : Ins) : (subIns σ x).to = x.to := rfl
theorem subIns_args (σ : Opd → Opd) (x : Ins) : (subIns σ x).args = x.args.map σ := rfl
theorem TInv.single {bs bs' : List (List Ins)} {R : List Bool} (h : TInv bs) (hd : singleS R bs = some bs') : TInv bs' ∧ mz bs' < mz bs := by
 unfold singleS at hd
 cases hf : (List.range bs.length).find? (sgB R bs) with
 | none => rw [hf] at hd; cases hd
 | some b =>
  rw [hf] at hd
  simp only [Option.bind_some] at hd
  obtain ⟨h1, h2, -⟩ := List.find?_range_eq_some.1 hf
  have hbl := List.mem_range.1 h2
  have hb : bs[b]? = some (bs.getD b []) := getD_at hbl
  obtain ⟨l, hl⟩ : ∃ l, l = bs.getD b [] := ⟨_, rfl⟩
  rw [← hl] at hd hb
  cases hp : lonePhi l with
  | none => rw [hp] at hd; cases hd
  | some i =>
   rw [hp] at hd
   simp only [Option.bind_some] at hd
   cases hx : l[i]? with
   | none => rw [hx] at hd; cases hd
   | some x =>
    rw [hx] at hd
    simp only [Option.bind_some] at hd
    cases hv : loneS x with
    | none => rw [hv] at hd; cases hd
    | some v =>
     rw [hv] at hd
     simp only [Option.map_some, Option.some.injEq] at hd
     unfold lonePhi at hp
     obtain ⟨-, hi, -⟩ := List.find?_range_eq_some.1 hp
     have h25 := phi_front (List.mem_range.1 hi) hx
     obtain ⟨hE, hlast⟩ := (h.loc b l hb).erase hx h25
     unfold singleAt at hd
     rw [← hl] at hd
     have hil := (List.getElem?_eq_some_iff.1 hx).1
     have hend0 : ∀ p, endI (bs.set b (l.eraseIdx i)) p = endI bs p := fun p => by
      rw [endI_set hb]
      by_cases e : p = b
      ·subst e; rw [if_pos rfl, hlast, endI_last hb]
      ·rw [if_neg e]
     have hend : ∀ p c, EndTo bs' p c ↔ EndTo bs p c := fun p c => by
      rw [← hd]
      unfold EndTo
      have e1 : endI (subAll (rsub x.reg v) (bs.set b (l.eraseIdx i))) p = (endI bs p).map (subIns (rsub x.reg v)) := by
       rw [← hend0 p]
       unfold subAll endI
       rw [List.getElem?_map]
       cases hq : (bs.set b (l.eraseIdx i))[p]? with
       | none => rfl
       | some q => simp
      rw [e1]
      cases endI bs p with
      | none => simp
      | some y =>
       simp only [Option.map_some, Option.some.injEq]
       constructor
       ·rintro ⟨z, rfl, g1, g2⟩; exact ⟨y, rfl, g1, g2⟩
       ·rintro ⟨z, rfl, g1, g2⟩; exact ⟨_, rfl, g1, g2⟩
     have hat : ∀ (c : Nat) l', bs'[c]? = some l' → ∃ l1, l' = l1.map (subIns (rsub x.reg v)) ∧ LInv bs.length l1 ∧ ∃ l0, bs[c]? = some l0 ∧ ∀ y, y ∈ l1 → y ∈ l0 := fun c l' hl' => by
      rw [← hd] at hl'
      unfold subAll at hl'
      rw [List.getElem?_map] at hl'
      cases hq : (bs.set b (l.eraseIdx i))[c]? with
      | none => rw [hq] at hl'; cases hl'
      | some l1 =>
       rw [hq] at hl'
       cases hl'
       refine ⟨l1, rfl, ?_⟩
       by_cases e : c = b
       ·subst e
        rw [List.getElem?_set_self hbl] at hq
        cases hq
        exact ⟨hE, l, hb, fun y hy => List.mem_of_mem_eraseIdx hy⟩
       ·rw [List.getElem?_set_ne (Ne.symm e)] at hq
        exact ⟨h.loc c l1 hq, l1, hq, fun y hy => hy⟩
     have hlen : bs'.length = bs.length := by rw [← hd]; simp [subAll]
     have hmz : mz bs' < mz bs := by
      have g1 := mz_set (l' := l.eraseIdx i) hb
      have g2 : mz bs' = mz (bs.set b (l.eraseIdx i)) := by
       rw [← hd]
       unfold mz subAll
       rw [List.map_map]
       congr 1
       refine List.map_congr_left fun l1 _ => ?_
       exact wt_map (g := subIns (rsub x.reg v)) (fun y => rfl) l1
      have g3 : wt (l.eraseIdx i) < wt l := by
       unfold wt
       have g4 := (List.eraseIdx_sublist l i).countP_le (p := fun x => x.op == 32)
       rw [List.length_eraseIdx, if_pos hil]
       omega
      omega
     refine ⟨⟨by rw [hlen]; exact h.pos, by have := h.size; omega, fun c l' hl' => ?_, fun c l' hl' y hy ho => ?_⟩, hmz⟩
     ·rw [hlen]
      obtain ⟨l1, rfl, hi1, -⟩ := hat c l' hl'
      refine hi1.map (subIns (rsub x.reg v)) (fun y => rfl) (fun y _ _ => by rw [subIns_args, List.length_map]) (fun y _ _ => rfl) (fun y hy ho => ?_) (fun y hy ho => hi1.srt y hy ho) (fun y hy t ht => hi1.wf.to_ y hy t ht) (fun y hy t ht => (hi1.fin y hy).2.2 t ht) (fun y hy ho => Nat.le_refl _)
      rw [subIns_args, List.length_map]
      exact hi1.wf.phi y hy ho
     ·obtain ⟨l1, rfl, hi1, l0, h0, h01⟩ := hat c l' hl'
      obtain ⟨z, hz, rfl⟩ := List.mem_map.1 hy
      obtain ⟨g1, g2⟩ := h.phi c l0 h0 z (h01 z hz) ho
      refine ⟨g1, fun p => ?_⟩
      rw [subIns_to, g2 p, hend]
end Go.Proofs.Ytamjcafjdioidaa
