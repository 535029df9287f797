/- Texts of the chain, without what is not wanted: TdSc, TdSd, IrY. No condition but sizes. -/
import Derived.WalkKit
import Derived.Deep.Slices
import Derived.Deep.Draws
import Derived.ChangeSame
import Derived.ChangeOld
import Derived.OwnWalk
import Derived.Laws.OwnMore
import Derived.Deep.AppendLies
import Derived.Test.YtamjcafjdioidaaRows
import Derived.ProofKit
import Derived.OpenShut
import Derived.JoinedCond
import Derived.WalkSpells
import Derived.WalkLawsBesides
import Derived.Deep.RegionHeld3
import Derived.Deep.LoopGhost
import Derived.Deep.QuietTactic
import Derived.BigQuiet
import Derived.Deep.DeepCutAuto
import Derived.Deep.CutBlock
import Derived.StillTailTactics
import Derived.Deep.RegionLaw
import Derived.Lib.SliceRun
import Derived.Laws.IdiomCopy
import Derived.Deep.MidRow
import Derived.Lib.Overlaps
import Derived.RegionTactic
import Derived.Deep.RegionLawGrows
import Derived.Test.YtamjcafjdioidaaUz01
import Derived.Test.YtamjcafjdioidaaUz02
import Derived.Test.YtamjcafjdioidaaUz03
import Derived.Test.YtamjcafjdioidaaUz04
import Derived.Test.YtamjcafjdioidaaUz05
import Derived.Test.YtamjcafjdioidaaUz06
import Derived.Test.YtamjcafjdioidaaUz07
import Derived.Test.YtamjcafjdioidaaUz08
import Derived.Test.YtamjcafjdioidaaUz09
import Derived.Test.YtamjcafjdioidaaUz10
import Derived.Test.YtamjcafjdioidaaUz11
import Derived.Test.YtamjcafjdioidaaUz12
import Derived.Test.YtamjcafjdioidaaUz13
import Derived.Test.YtamjcafjdioidaaUz14
import Derived.Test.YtamjcafjdioidaaUz15
import Derived.Test.YtamjcafjdioidaaUz16
import Derived.Test.YtamjcafjdioidaaUz17
import Derived.Test.YtamjcafjdioidaaUz18
import Derived.Test.YtamjcafjdioidaaUz19
import Derived.Test.YtamjcafjdioidaaUz20
import Derived.Test.YtamjcafjdioidaaUz21
import Derived.Test.YtamjcafjdioidaaUz22
import Derived.Test.YtamjcafjdioidaaUz23
import Derived.Test.YtamjcafjdioidaaUz24
import Derived.Test.YtamjcafjdioidaaUz25
import Derived.Test.YtamjcafjdioidaaUz26
import Derived.Test.YtamjcafjdioidaaUz27
import Derived.Test.YtamjcafjdioidaaUz28
import Derived.Test.YtamjcafjdioidaaUz29
import Derived.Test.YtamjcafjdioidaaUz30
import Derived.Test.YtamjcafjdioidaaUz31
import Derived.Test.YtamjcafjdioidaaUz32
namespace Go.Proofs.Ytamjcafjdioidaa
set_option linter.unusedVariables false
set_option linter.unusedSimpArgs false
theorem mg_facts {bs : List (List Ins)} {a : Nat} (h : TInv bs) (hal : a < bs.length) (h1 : mgB (predsL (succsF bs) bs.length) bs a = true) :
  ∃ (b : Nat) (la lb : List Ins), b = mgTo bs a ∧ b ≠ a ∧ 1 ≤ b ∧ b < bs.length ∧ bs[a]? = some la ∧ bs[b]? = some lb ∧ (∀ c, EndTo bs a c ↔ c = (b : Int)) ∧ (∀ p, EndTo bs p (b : Int) → p = a) ∧ ∀ y, y ∈ lb → y.op ≠ 25 := by
 obtain ⟨la, hla⟩ : ∃ la, bs[a]? = some la := ⟨_, List.getElem?_eq_getElem hal⟩
 unfold mgB at h1
 cases he : endI bs a with
 | none => rw [he] at h1; cases h1
 | some x =>
  rw [he] at h1
  simp only [Bool.and_eq_true, decide_eq_true_eq, Bool.not_eq_true', decide_eq_false_iff_not] at h1
  obtain ⟨⟨⟨h31, hba⟩, hP1⟩, h25⟩ := h1
  have hx : la.getLast? = some x := by rw [← endI_last hla]; exact he
  have hxm := List.mem_of_getLast? hx
  have hLa := h.loc a la hla
  have hto1 := hLa.wf.br x hxm h31
  obtain ⟨tb, hto⟩ : ∃ tb, x.to = [tb] := by
   match h9 : x.to, hto1 with
   | [t], _ => exact ⟨t, rfl⟩
  have htb : 1 ≤ tb ∧ tb < bs.length := ⟨(hLa.fin x hx).2.2 tb (by rw [hto]; simp), (hLa.wf.to_ x hxm tb (by rw [hto]; simp)).2⟩
  obtain ⟨b, hb⟩ : ∃ b, b = mgTo bs a := ⟨_, rfl⟩
  rw [← hb] at hba hP1 h25
  have hbt : (b : Int) = tb := by
   rw [hb]
   unfold mgTo
   rw [he]
   simp only [Option.map_some, hto, Option.getD_some, List.getD_eq_getElem?_getD, List.getElem?_cons_zero]
   omega
  have hbl : b < bs.length := by omega
  obtain ⟨lb, hlb⟩ : ∃ lb, bs[b]? = some lb := ⟨_, List.getElem?_eq_getElem hbl⟩
  have hgb : bs.getD b [] = lb := by rw [List.getD_eq_getElem?_getD, hlb]; rfl
  rw [hgb] at h25
  have hendA : ∀ c, EndTo bs a c ↔ c = (b : Int) := fun c => by
   unfold EndTo
   rw [he]
   constructor
   ·rintro ⟨y, hy, -, hc⟩
    cases hy
    rw [hto] at hc
    rw [hbt]
    exact List.mem_singleton.1 hc
   ·intro hc
    exact ⟨x, rfl, .inl h31, by rw [hto, hc, hbt]; simp⟩
  refine ⟨b, la, lb, hb, hba, by omega, hbl, hla, hlb, hendA, fun p hp => ?_, fronts_none (h.loc b lb hlb).fr h25⟩
  have hpl := endTo_lt hp
  have e1 : (predsL (succsF bs) bs.length).getD b [] = predsAt (succsF bs) b bs.length := by
   unfold predsL
   rw [List.getD_eq_getElem?_getD, List.getElem?_map, List.getElem?_range hbl]
   rfl
  rw [e1] at hP1
  unfold predsAt at hP1
  rw [List.length_map] at hP1
  have m1 : p ∈ (List.range bs.length).filter fun (x : Nat) => decide ((b : Int) ∈ succsF bs (x : Int)) := List.mem_filter.2 ⟨List.mem_range.2 hpl, by simpa using (endTo_succ ⟨by omega, by omega⟩).1 hp⟩
  have m2 : a ∈ (List.range bs.length).filter fun (x : Nat) => decide ((b : Int) ∈ succsF bs (x : Int)) := List.mem_filter.2 ⟨List.mem_range.2 hal, by simpa using (endTo_succ ⟨by omega, by omega⟩).1 ((hendA b).2 rfl)⟩
  obtain ⟨z, hz⟩ := List.length_eq_one_iff.1 hP1
  rw [hz] at m1 m2
  rw [List.mem_singleton.1 m1, List.mem_singleton.1 m2]
theorem mgAt_at {bs : List (List Ins)} {a b : Nat} {la lb : List Ins} (hla : bs[a]? = some la) (hlb : bs[b]? = some lb) {c : Nat} {l' : List Ins} (hl' : (mgAt bs a b)[c]? = some l') (hcb : c ≠ b) :
  ∃ l1, l' = l1.map (movP b a) ∧ ((c ≠ a ∧ bs[c]? = some l1) ∨ (c = a ∧ l1 = la.dropLast ++ lb)) := by
 have hgb : bs.getD b [] = lb := by rw [List.getD_eq_getElem?_getD, hlb]; rfl
 have hga : bs.getD a [] = la := by rw [List.getD_eq_getElem?_getD, hla]; rfl
 have hal := (List.getElem?_eq_some_iff.1 hla).1
 unfold mgAt mgJoin at hl'
 rw [hga, hgb, List.getElem?_map, List.getElem?_set_ne (Ne.symm hcb)] at hl'
 by_cases e : c = a
 ·subst e
  rw [List.getElem?_set_self hal] at hl'
  cases hl'
  exact ⟨_, rfl, .inr ⟨rfl, rfl⟩⟩
 ·rw [List.getElem?_set_ne (Ne.symm e)] at hl'
  cases hq : bs[c]? with
  | none => rw [hq] at hl'; cases hl'
  | some l1 =>
   rw [hq] at hl'
   cases hl'
   exact ⟨l1, rfl, .inl ⟨e, rfl⟩⟩
theorem mgAt_b {bs : List (List Ins)} {a b : Nat} (hb : b < bs.length) : (mgAt bs a b)[b]? = some [] := by
 unfold mgAt
 rw [List.getElem?_map, J_at hb]
 rfl
theorem movP_reg (p q : Int) (x : Ins) : (movP p q x).reg = x.reg := by
 unfold movP
 split
 ·exact (movI_scalars p q x).2.1
 ·rfl
theorem last_join {la lb : List Ins} (h : lb ≠ []) : (la.dropLast ++ lb).getLast? = lb.getLast? := by
 cases hl : lb.getLast? with
 | none => exact absurd (List.getLast?_eq_none_iff.1 hl) h
 | some z =>
  obtain ⟨ys, hys⟩ := List.getLast?_eq_some_iff.1 hl
  rw [hys, ← List.append_assoc, List.getLast?_concat]
theorem SInv.merged {bs bs' : List (List Ins)} (hT : TInv bs) (h : SInv bs) (hd : mergedS (predsL (succsF bs) bs.length) bs = some bs') : SInv bs' := by
 unfold mergedS at hd
 cases hf : (List.range bs.length).find? (mgB (predsL (succsF bs) bs.length) bs) with
 | none => rw [hf] at hd; cases hd
 | some a =>
  rw [hf] at hd
  cases hd
  show SInv (withoutS ((List.replicate bs.length false).set (mgTo bs a) true) (mgAt bs a (mgTo bs a)))
  obtain ⟨h1, h2, -⟩ := List.find?_range_eq_some.1 hf
  have hal := List.mem_range.1 h2
  obtain ⟨b, la, lb, hb, hba, hb1, hbl, hla, hlb, hendA, honly, hno⟩ := mg_facts hT hal h1
  rw [← hb]
  have hLa := hT.loc a la hla
  have hLb := hT.loc b lb hlb
  obtain ⟨gone, hgone⟩ : ∃ gone, gone = (List.replicate bs.length false).set b true := ⟨_, rfl⟩
  rw [← hgone]
  have hgl : gone.length = bs.length := by rw [hgone]; simp
  have hkept : ∀ c, Kept gone c ↔ c ≠ b := fun c => by
   unfold Kept
   rw [hgone, List.getD_eq_getElem?_getD]
   by_cases e : c = b
   ·subst e
    rw [List.getElem?_set_self (by simpa using hbl)]
    simp
   ·rw [List.getElem?_set_ne (Ne.symm e), List.getElem?_replicate]
    simp only [ne_eq, e, not_false_eq_true, iff_true]
    split <;> rfl
  have hlenM : (mgAt bs a b).length = bs.length := by unfold mgAt; rw [List.length_map, J_len]
  -- a block's instructions come from one of the old
  have hfrom : ∀ (c : Nat) l1, ((c ≠ a ∧ bs[c]? = some l1) ∨ (c = a ∧ l1 = la.dropLast ++ lb)) → LInv bs.length l1 ∧ (∀ z, z ∈ l1 → z.op = 25 → ∃ l0, bs[c]? = some l0 ∧ z ∈ l0) ∧ ∀ z, z ∈ l1 → ∃ l0, l0 ∈ bs ∧ z ∈ l0 := fun c l1 hc => by
   rcases hc with ⟨e, hc⟩ | ⟨e, hc⟩
   ·exact ⟨hT.loc c l1 hc, fun z hz _ => ⟨l1, hc, hz⟩, fun z hz => ⟨l1, List.mem_of_getElem? hc, hz⟩⟩
   ·subst hc e
    refine ⟨hLa.join hLb hno, fun z hz ho => ?_, fun z hz => ?_⟩
    ·rcases List.mem_append.1 hz with h3 | h3
     ·exact ⟨la, hla, (List.dropLast_sublist la).subset h3⟩
     ·exact absurd ho (hno z h3)
    ·rcases List.mem_append.1 hz with h3 | h3
     ·exact ⟨la, List.mem_of_getElem? hla, (List.dropLast_sublist la).subset h3⟩
     ·exact ⟨lb, List.mem_of_getElem? hlb, h3⟩
  have hendM : ∀ p c, EndTo (mgAt bs a b) p c → p ≠ b ∧ if p = a then EndTo bs b c else EndTo bs p c := fun p c hc => by
   have hpl := endTo_lt hc
   rw [hlenM] at hpl
   obtain ⟨y, g1, g2, g3⟩ := hc
   have hpb : p ≠ b := fun e => by
    subst e
    rw [endI_last (mgAt_b hbl)] at g1
    cases g1
   refine ⟨hpb, ?_⟩
   obtain ⟨l', hl'⟩ : ∃ l', (mgAt bs a b)[p]? = some l' := ⟨_, List.getElem?_eq_getElem (by omega)⟩
   obtain ⟨l1, rfl, hc1⟩ := mgAt_at hla hlb hl' hpb
   obtain ⟨hi1, -, -⟩ := hfrom p l1 hc1
   rw [endI_last hl', List.getLast?_map] at g1
   cases hq : l1.getLast? with
   | none => rw [hq] at g1; cases g1
   | some z =>
    rw [hq] at g1
    simp only [Option.map_some, Option.some.injEq] at g1
    have key : movP b a z = z := by
     unfold movP
     rw [if_neg (hi1.fin z hq).1]
    rw [key] at g1
    subst g1
    rcases hc1 with ⟨e, hc2⟩ | ⟨e, hc2⟩
    ·rw [if_neg e]
     exact ⟨z, by rw [endI_last hc2]; exact hq, g2, g3⟩
    ·rw [if_pos e]
     rw [hc2, last_join hLb.wf.ne] at hq
     exact ⟨z, by rw [endI_last hlb]; exact hq, g2, g3⟩
  have hnb : ∀ π, Pth (mgAt bs a b) π → b ∉ π := fun π hp => by
   induction hp with
   | start => intro hm; have := List.mem_singleton.1 hm; omega
   | @step p c ρ g1 g2 ih =>
    intro hm
    rcases List.mem_cons.1 hm with h3 | h3
    ·subst h3
     obtain ⟨-, g4⟩ := hendM p _ g2
     by_cases e : p = a
     ·rw [if_pos e] at g4; exact hba (honly b g4)
     ·rw [if_neg e] at g4; exact e (honly p g4)
    ·exact ih h3
  have hlift : ∀ π1, Pth (mgAt bs a b) π1 → ∀ p ρ, π1 = p :: ρ → ∃ σ, Pth bs (p :: σ) ∧ ∀ e, e ∈ p :: σ → e ∈ p :: ρ ∨ (e = b ∧ a ∈ ρ) := fun π1 hp => by
   induction hp with
   | start =>
    intro p ρ e
    cases e
    exact ⟨[], .start, fun e he => .inl he⟩
   | @step p c ρ g1 g2 ih =>
    intro c9 ρ9 e9
    cases e9
    obtain ⟨σ, k1, k2⟩ := ih p ρ rfl
    obtain ⟨-, g4⟩ := hendM p _ g2
    by_cases e : p = a
    ·rw [if_pos e] at g4
     subst e
     refine ⟨b :: p :: σ, .step (.step k1 ((hendA b).2 rfl)) g4, fun d hd => ?_⟩
     rcases List.mem_cons.1 hd with h3 | h3
     ·left; rw [h3]; exact List.mem_cons_self ..
     ·rcases List.mem_cons.1 h3 with h4 | h4
      ·right; exact ⟨h4, List.mem_cons_self ..⟩
      ·rcases k2 d h4 with h5 | ⟨h5, h6⟩
       ·exact .inl (List.mem_cons_of_mem _ h5)
       ·exact .inr ⟨h5, List.mem_cons_of_mem _ h6⟩
    ·rw [if_neg e] at g4
     refine ⟨p :: σ, .step k1 g4, fun d hd => ?_⟩
     rcases List.mem_cons.1 hd with h3 | h3
     ·left; rw [h3]; exact List.mem_cons_self ..
     ·rcases k2 d h3 with h5 | ⟨h5, h6⟩
      ·exact .inl (List.mem_cons_of_mem _ h5)
      ·exact .inr ⟨h5, List.mem_cons_of_mem _ h6⟩
  have hnoA : ∀ (c : Nat) l0 y, bs[c]? = some l0 → c ≠ b → y ∈ l0 → y.op = 25 → (a : Int) ∉ y.to := fun c l0 y h0 hcb hy ho hm => by
   have h9 := (((hT.phi c l0 h0 y hy ho).2 a).1 hm).2
   rw [Int.toNat_natCast, hendA] at h9
   omega
  have hS1 : SInv (mgAt bs a b) := by
   refine ⟨fun l' x' a0 hl' hx' ha hk => ?_, fun c p π hp l' x' a0 hl' hx' ho hq hk d hdf => ?_⟩
   ·obtain ⟨c, hc⟩ := List.mem_iff_getElem?.1 hl'
    by_cases hcb : c = b
    ·subst hcb
     rw [mgAt_b hbl] at hc
     cases hc
     cases hx'
    ·obtain ⟨l1, rfl, hc1⟩ := mgAt_at hla hlb hc hcb
     obtain ⟨z, hz, rfl⟩ := List.mem_map.1 hx'
     obtain ⟨hi1, -, hm1⟩ := hfrom c l1 hc1
     obtain ⟨l0, h0, hz0⟩ := hm1 z hz
     have ha' : a0 ∈ z.args := by
      unfold movP at ha
      split at ha
      ·rename_i ho; exact args_mov (hi1.wf.phi z hz ho) ha
      ·exact ha
     exact h.num l0 z a0 h0 hz0 ha' hk
   ·have hcb : c ≠ b := fun e => hnb _ hp (by rw [e]; exact List.mem_cons_self ..)
    obtain ⟨l1, rfl, hc1⟩ := mgAt_at hla hlb hl' hcb
    obtain ⟨z, hz, rfl⟩ := List.mem_map.1 hx'
    rw [movP_op] at ho
    obtain ⟨hi1, hph, hm1⟩ := hfrom c l1 hc1
    obtain ⟨l0, h0, hz0⟩ := hph z hz ho
    have hpp : Pth (mgAt bs a b) (p :: π) ∧ EndTo (mgAt bs a b) p (c : Int) := by cases hp with | step g1 g2 => exact ⟨g1, g2⟩
    obtain ⟨σ, k1, k2⟩ := hlift _ hpp.1 p π rfl
    obtain ⟨hpb, g4⟩ := hendM p _ hpp.2
    have hq : ((p : Int), a0) ∈ takes (movI b a z) := by unfold movP at hq; rwa [if_pos ho] at hq
    -- where d was
    have hdo : d ≠ b ∧ (DefIn bs d a0.num ∨ (d = a ∧ DefIn bs b a0.num)) := by
     obtain ⟨l2, w, m1, m2, m3⟩ := hdf
     have hdb : d ≠ b := fun e => by
      subst e
      rw [mgAt_b hbl] at m1
      cases m1
      cases m2
     refine ⟨hdb, ?_⟩
     obtain ⟨l3, rfl, hc3⟩ := mgAt_at hla hlb m1 hdb
     obtain ⟨w0, m4, rfl⟩ := List.mem_map.1 m2
     rw [movP_reg] at m3
     rcases hc3 with ⟨e, hc4⟩ | ⟨e, hc4⟩
     ·exact .inl ⟨l3, w0, hc4, m4, m3⟩
     ·rw [hc4] at m4
      rcases List.mem_append.1 m4 with m5 | m5
      ·left; rw [e]; exact ⟨la, w0, hla, (List.dropLast_sublist la).subset m5, m3⟩
      ·right; exact ⟨e, lb, w0, hlb, m5, m3⟩
    rcases takes_mov (hi1.wf.phi z hz ho) (hnoA c l0 z h0 hcb hz0 ho) hq with ⟨e1, hq1⟩ | ⟨e1, hq1⟩
    ·have e2 : p = a := by omega
     subst e2
     rw [if_pos rfl] at g4
     have hold : Pth bs (c :: b :: p :: σ) := .step (.step k1 ((hendA b).2 rfl)) g4
     rcases hdo.2 with h5 | ⟨h5, -⟩
     ·have h6 := h.ssa c b (p :: σ) hold l0 z a0 h0 hz0 ho hq1 hk d h5
      rcases List.mem_cons.1 h6 with h7 | h7
      ·exact absurd h7 hdo.1
      ·rcases k2 d h7 with h8 | ⟨h8, -⟩
       ·exact h8
       ·exact absurd h8 hdo.1
     ·rw [h5]; exact List.mem_cons_self ..
    ·have e2 : p ≠ a := by omega
     rw [if_neg e2] at g4
     have hold : Pth bs (c :: p :: σ) := .step k1 g4
     rcases hdo.2 with h5 | ⟨h5, h9⟩
     ·rcases k2 d (h.ssa c p σ hold l0 z a0 h0 hz0 ho hq1 hk d h5) with h8 | ⟨h8, -⟩
      ·exact h8
      ·exact absurd h8 hdo.1
     ·rcases k2 b (h.ssa c p σ hold l0 z a0 h0 hz0 ho hq1 hk b h9) with h8 | ⟨-, h8⟩
      ·exact absurd h8 (hnb _ hpp.1)
      ·rw [h5]; exact List.mem_cons_of_mem _ h8
  refine hS1.without (by omega) ((hkept 0).2 (by omega)) (by rw [hlenM]; exact hT.pos) fun c l' hl' hk y hy t ht => ?_
  rw [hlenM]
  have hcb := (hkept c).1 hk
  obtain ⟨l1, rfl, hc1⟩ := mgAt_at hla hlb hl' hcb
  obtain ⟨z, hz, rfl⟩ := List.mem_map.1 hy
  obtain ⟨hi1, hph, hm1⟩ := hfrom c l1 hc1
  have hr : 0 ≤ t ∧ t < bs.length := by
   rcases movP_to ht with h9 | h9
   ·exact hi1.wf.to_ z hz t h9
   ·omega
  refine ⟨hr.1, hr.2, ?_⟩
  rw [hkept]
  intro e
  by_cases ho : z.op = 25
  ·have hmp : movP b a z = movI b a z := by unfold movP; rw [if_pos ho]
   rw [hmp, movI_mem (hi1.srt z hz ho)] at ht
   rcases ht with ⟨h3, h4⟩ | ⟨h3, -⟩
   ·omega
   ·omega
  ·have hmo : movP b a z = z := by unfold movP; rw [if_neg ho]
   rw [hmo] at ht
   rcases hi1.kinds hz with h3 | h3 | ⟨h3, h4⟩
   ·exact ho h3
   ·rw [h3] at ht; cases ht
   ·rcases hc1 with ⟨ec, hc2⟩ | ⟨ec, hc2⟩
    ·have h5 : EndTo bs c (b : Int) := ⟨z, by rw [endI_last hc2]; exact h3, h4, by rw [← e, show ((t.toNat : Nat) : Int) = t by omega]; exact ht⟩
     exact ec (honly c h5)
    ·rw [hc2, last_join hLb.wf.ne] at h3
     have h5 : EndTo bs b (b : Int) := ⟨z, by rw [endI_last hlb]; exact h3, h4, by rw [← e, show ((t.toNat : Nat) : Int) = t by omega]; exact ht⟩
     exact hba (honly b h5)
theorem SInv.step {bs bs' : List (List Ins)} (hT : TInv bs) (h : SInv bs) (hd : stepS bs = some bs') : SInv bs' := by
 unfold stepS at hd
 cases hf : (List.range 5).find? fun i => (ruleS bs i).isSome with
 | none => rw [hf] at hd; cases hd
 | some i =>
  rw [hf] at hd
  have hd : ruleS bs i = some bs' := hd
  unfold ruleS at hd
  split at hd
  ·exact SInv.decided hT h hd
  ·exact SInv.twice hT h hd
  ·exact SInv.single hT h hd
  ·exact SInv.unseen hT h hd
  ·exact SInv.merged hT h hd
theorem sall {f : Fun} (hp : f.params.length ≤ 2000000) : ∀ (k : Nat) (bs : List (List Ins)), TInv bs → SInv bs → mz bs ≤ k → TInv (allS bs) ∧ SInv (allS bs) ∧ stepS (allS bs) = none
 | k, bs, hT, hS, hk => by
  cases hs : stepS bs with
  | none =>
   rw [allS_none hs]
   exact ⟨hT, hS, hs⟩
  | some bs' =>
   have h1 := hT.step hs
   rw [allS_step (TInv.inv (f := f) hp) hT hs]
   match k with
   | 0 => omega
   | k + 1 => exact sall hp k bs' h1.1 (SInv.step hT hS hs) (by omega)
theorem Pth.reached {bs : List (List Ins)} (hT : TInv bs) {π : List Nat} (h : Pth bs π) : ∀ p ρ, π = p :: ρ → p < bs.length ∧ Rch (succsF bs) (p : Int) := by
 induction h with
 | start => intro p ρ e; cases e; exact ⟨hT.pos, .start⟩
 | @step p c ρ g1 g2 ih =>
  intro c9 ρ9 e
  cases e
  obtain ⟨k1, k2⟩ := ih p ρ rfl
  obtain ⟨x, m1, m2, m3⟩ := id g2
  obtain ⟨l, hl⟩ : ∃ l, bs[p]? = some l := ⟨_, List.getElem?_eq_getElem k1⟩
  rw [endI_last hl] at m1
  have hr := (hT.loc p l hl).wf.to_ x (List.mem_of_getLast? m1) _ m3
  exact ⟨by omega, .step k2 ((endTo_succ hr).1 g2)⟩
theorem reached_pth {bs : List (List Ins)} (hT : TInv bs) {c : Int} (h : Rch (succsF bs) c) : 0 ≤ c ∧ c < bs.length ∧ ∃ ρ, Pth bs (c.toNat :: ρ) := by
 induction h with
 | start => exact ⟨by omega, by have := hT.pos; omega, [], .start⟩
 | @step x t h1 h2 ih =>
  obtain ⟨g1, g2, ρ, g3⟩ := ih
  have hx : ((x.toNat : Nat) : Int) = x := by omega
  have h3 : t ∈ succsF bs ((x.toNat : Nat) : Int) := by rw [hx]; exact h2
  have hr : 0 ≤ t ∧ t < bs.length := (succsF_ok bs x).bound t h2
  refine ⟨hr.1, hr.2, x.toNat :: ρ, .step g3 ((endTo_succ ?_).2 ?_)⟩
  ·omega
  ·rw [show ((t.toNat : Nat) : Int) = t by omega]; exact h3
theorem noPhi_lone {l : List Ins} {i : Nat} {x : Ins} (hf : Fronts l) (hx : l[i]? = some x) (h25 : x.op = 25) (h : lonePhi l = none) : loneS x = none := by
 have hi : i < (l.takeWhile isPhi).length := front_ge (fun j y hj hy => hf j i y x hy hx hj h25) (List.getElem?_eq_some_iff.1 hx).1
 unfold lonePhi at h
 rw [List.find?_eq_none] at h
 have := h i (List.mem_range.2 hi)
 rw [hx] at this
 cases hv : loneS x with
 | none => rfl
 | some v => simp [hv] at this
theorem stays {bs : List (List Ins)} (hT : TInv bs) (hS : SInv bs) (h : stepS bs = none) :
  (∀ c, c < bs.length → (reachF bs)[c]? = some true) ∧ (∀ l, l ∈ bs → ∀ x, x ∈ l → (x.op = 32 → (x.args.getD 0 ⟨0, 0, 0⟩).kind ≠ 2) ∧ (x.op = 25 → 2 ≤ x.args.length)) := by
 rw [stepS_cases] at h
 obtain ⟨h0, h⟩ := Option.or_eq_none_iff.1 h
 obtain ⟨h1, h⟩ := Option.or_eq_none_iff.1 h
 obtain ⟨h2, h⟩ := Option.or_eq_none_iff.1 h
 obtain ⟨h3, h⟩ := Option.or_eq_none_iff.1 h
 have hall : ∀ c, c < bs.length → (reachF bs)[c]? = some true := fun c hc => by
  unfold unseenS at h3
  split at h3
  ·cases h3
  ·rename_i hany
   have hcl : c < (reachF bs).length := by rw [reach_len]; exact hc
   rw [List.getElem?_eq_getElem hcl]
   cases hr : (reachF bs)[c] with
   | true => rfl
   | false => exact absurd (List.any_eq_true.2 ⟨false, by rw [← hr]; exact List.getElem_mem hcl, rfl⟩) hany
 refine ⟨hall, fun l hl x hx => ⟨fun h32 hk2 => ?_, fun h25 => ?_⟩⟩
 ·obtain ⟨c, hc⟩ := List.mem_iff_getElem?.1 hl
  have hcl := (List.getElem?_eq_some_iff.1 hc).1
  rcases (hT.loc c l hc).kinds hx with g | g | ⟨g, -⟩
  ·omega
  ·have := ((hT.loc c l hc).wf.brif x hx h32).1
   rw [g] at this
   simp at this
  ·unfold decidedS at h0
   rw [Option.map_eq_none_iff, List.find?_eq_none] at h0
   have := h0 c (List.mem_range.2 hcl)
   unfold dcB at this
   rw [List.getD_eq_getElem?_getD, hall c hcl, endI_last hc, g] at this
   simp [h32] at this
   exact this (by rw [← List.getD_eq_getElem?_getD]; exact hk2)
 ·obtain ⟨c, hc⟩ := List.mem_iff_getElem?.1 hl
  have hcl := (List.getElem?_eq_some_iff.1 hc).1
  have hlen := (hT.loc c l hc).wf.phi x hx h25
  obtain ⟨hc0, hpr⟩ := hT.phi c l hc x hx h25
  have hin : (c : Int) ∈ orderF bs := by
   have := hall c hcl
   rw [reach_at bs c hcl] at this
   simpa using this
  have hrch := ((order_ok bs).mem _).1 hin
  obtain ⟨-, -, ρ, hpth⟩ := reached_pth hT hrch.2
  rw [Int.toNat_natCast] at hpth
  cases hpth with
  | start => exact absurd rfl hc0
  | @step p _ π g1 g2 =>
   obtain ⟨q, σ, k1, k2, -⟩ := Pth.first hc0 (.step g1 g2) (List.mem_cons_self ..)
   have hq : (q : Int) ∈ x.to := (hpr q).2 ⟨by omega, by rw [Int.toNat_natCast]; cases k1 with | step _ h9 => exact h9⟩
   have hpos := List.length_pos_of_mem hq
   rcases Nat.lt_or_ge x.args.length 2 with h5 | h5
   ·exfalso
    obtain ⟨a, ha⟩ : ∃ a, x.args = [a] := by
     match h9 : x.args, (show x.args.length = 1 by omega) with
     | [a], _ => exact ⟨a, rfl⟩
    obtain ⟨t, ht⟩ : ∃ t, x.to = [t] := by
     match h9 : x.to, (show x.to.length = 1 by omega) with
     | [t], _ => exact ⟨t, rfl⟩
    have hl2 : lonePhi l = none := by
     unfold singleS at h2
     cases hf : (List.range bs.length).find? (sgB (reachF bs) bs) with
     | none =>
      rw [List.find?_eq_none] at hf
      have := hf c (List.mem_range.2 hcl)
      unfold sgB at this
      rw [List.getD_eq_getElem?_getD, hall c hcl, List.getD_eq_getElem?_getD (l := bs), hc] at this
      simpa using this
     | some b =>
      exfalso
      rw [hf] at h2
      obtain ⟨m1, m2, -⟩ := List.find?_range_eq_some.1 hf
      unfold sgB at m1
      simp only [Bool.and_eq_true, Option.isSome_iff_exists] at m1
      obtain ⟨-, i, hi⟩ := m1
      simp only [Option.bind_some, hi] at h2
      unfold lonePhi at hi
      obtain ⟨m3, m4, -⟩ := List.find?_range_eq_some.1 hi
      rw [Option.isSome_iff_exists] at m3
      obtain ⟨v, hv⟩ := m3
      cases hy : (bs.getD b [])[i]? with
      | none => rw [hy] at hv; cases hv
      | some y =>
       rw [hy] at hv h2
       simp only [Option.bind_some] at hv h2
       rw [hv] at h2
       cases h2
    obtain ⟨i, hi⟩ := List.mem_iff_getElem?.1 hx
    have hlone := noPhi_lone (hT.loc c l hc).fr hi h25 hl2
    have hself : a = selfO x := by
     rcases Decidable.em (a = selfO x) with e | e
     ·exact e
     ·exfalso
      unfold loneS loneF at hlone
      rw [ha] at hlone
      simp [loneStep, e] at hlone
    have htq : t = (q : Int) := by rw [ht] at hq; exact (List.mem_singleton.1 hq).symm
    have htk : ((q : Int), selfO x) ∈ takes x := by
     unfold takes
     rw [ht, ha, hself, htq]
     simp
    exact k2 (hS.ssa c q σ k1 l x (selfO x) hc hx h25 htk rfl c ⟨l, x, hc, hx, rfl⟩)
   ·exact h5
end Go.Proofs.Ytamjcafjdioidaa

namespace Go.Proofs.Ytamjcafjdioidaa
set_option linter.unusedVariables false
set_option linter.unusedSimpArgs false
def fl (bs : List (List Ins)) : Nat := (bs.map List.length).sum
theorem fl_flat (bs : List (List Ins)) : bs.flatten.length = fl bs := by
 unfold fl
 rw [List.length_flatten]
theorem fl_cons (l : List Ins) (bs : List (List Ins)) : fl (l :: bs) = l.length + fl bs := by simp [fl]
theorem fl_append (a b : List (List Ins)) : fl (a ++ b) = fl a + fl b := by simp [fl]
theorem fl_set {bs : List (List Ins)} {b : Nat} {l l' : List Ins} (h : bs[b]? = some l) : fl (bs.set b l') + l.length = fl bs + l'.length := by
 induction bs generalizing b with
 | nil => simp at h
 | cons y bs ih =>
  cases b with
  | zero => cases h; rw [List.set_cons_zero, fl_cons, fl_cons]; omega
  | succ b => rw [List.set_cons_succ, fl_cons, fl_cons]; have := ih (by simpa using h); omega
theorem fl_kept {bs : List (List Ins)} (gone : List Bool) : ∀ (k : Nat), k ≤ bs.length → fl ((keptN gone k).map fun b => (bs.getD b []).map (renI gone)) ≤ fl (bs.take k)
 | 0, _ => by simp [keptN, fl]
 | k + 1, hk => by
  have ih := fl_kept (bs := bs) gone k (by omega)
  have h1 : bs[k]? = some (bs.getD k []) := getD_at (l := bs) (by omega)
  have e1 : bs.take (k + 1) = bs.take k ++ [bs.getD k []] := take_snoc h1
  have e2 : keptN gone (k + 1) = keptN gone k ++ (if gone.getD k false = true then [] else [k]) := by
   unfold keptN
   rw [List.range_succ, List.filter_append, List.filter_cons]
   cases gone.getD k false <;> simp
  rw [e1, e2, List.map_append, fl_append, fl_append]
  have e3 : fl [bs.getD k []] = (bs.getD k []).length := by simp [fl]
  have a1 : fl (List.map (fun b => (bs.getD b []).map (renI gone)) (if gone.getD k false = true then [] else [k])) ≤ (bs.getD k []).length := by
   cases gone.getD k false with
   | true => rw [if_pos rfl]; simp [fl]
   | false =>
    rw [if_neg (by decide)]
    have e6 : fl (List.map (fun b => (bs.getD b []).map (renI gone)) [k]) = ((bs.getD k []).map (renI gone)).length := by simp only [fl, List.map_cons, List.map_nil, List.sum_cons, List.sum_nil, Nat.add_zero]
    rw [e6, List.length_map]
    exact Nat.le_refl _
  omega
theorem fl_without (bs : List (List Ins)) (gone : List Bool) : fl (withoutS gone bs) ≤ fl bs ∧ (withoutS gone bs).length ≤ bs.length := by
 have := fl_kept (bs := bs) gone bs.length (Nat.le_refl _)
 rw [List.take_length] at this
 refine ⟨this, ?_⟩
 rw [without_len]
 unfold keptN
 have h1 := List.length_filter_le (fun b => !(gone.getD b false)) (List.range bs.length)
 rw [List.length_range] at h1
 exact h1
theorem loseL_length (p : Int) (l : List Ins) : (loseL p l).length = l.length := by
 unfold loseL
 rw [List.length_append, List.length_map, ← List.length_append, List.takeWhile_append_dropWhile]
theorem fl_loseB (p : Int) (bs : List (List Ins)) (b : Nat) : fl (loseB p bs b) = fl bs := by
 unfold loseB
 rcases Nat.lt_or_ge b bs.length with h | h
 ·have h1 : bs[b]? = some (bs.getD b []) := getD_at h
  have := fl_set (l' := loseL p (bs.getD b [])) h1
  rw [loseL_length] at this
  omega
 ·rw [List.set_eq_of_length_le h]
theorem fl_loseAll (gone : List Bool) (n : Nat) (bs : List (List Ins)) : ∀ k, fl (loseAll gone n bs k) = fl bs
 | 0 => rfl
 | k + 1 => by
  rw [loseAll_next]
  have key : ∀ (bs : List (List Ins)) j, fl (loseRow gone k bs j) = fl bs := fun bs j => by
   induction j with
   | zero => rfl
   | succ j ih =>
    rw [loseRow_next]
    unfold loseIf
    split
    ·rw [fl_loseB, ih]
    ·exact ih
  rw [key, fl_loseAll gone n bs k]
theorem len_loseAll (gone : List Bool) (n : Nat) (bs : List (List Ins)) : ∀ k, (loseAll gone n bs k).length = bs.length
 | 0 => rfl
 | k + 1 => by
  rw [loseAll_next]
  have key : ∀ (bs : List (List Ins)) j, (loseRow gone k bs j).length = bs.length := fun bs j => by
   induction j with
   | zero => rfl
   | succ j ih => rw [loseRow_next, loseIf_len, ih]
  rw [key, len_loseAll gone n bs k]
theorem fl_map (g : Ins → Ins) (bs : List (List Ins)) : fl (bs.map fun l => l.map g) = fl bs := by
 unfold fl
 rw [List.map_map]
 congr 1
 refine List.map_congr_left fun l _ => ?_
 show (l.map g).length = l.length
 rw [List.length_map]
theorem setEnd_length (l : List Ins) (x : Ins) : (setEnd l x).length = l.length := by simp [setEnd]
theorem fl_setEnd (bs : List (List Ins)) (b : Nat) (x : Ins) : fl (bs.set b (setEnd (bs.getD b []) x)) = fl bs := by
 rcases Nat.lt_or_ge b bs.length with h | h
 ·have h1 : bs[b]? = some (bs.getD b []) := getD_at h
  have := fl_set (l' := setEnd (bs.getD b []) x) h1
  rw [setEnd_length] at this
  omega
 ·rw [List.set_eq_of_length_le h]
theorem step_le {bs bs' : List (List Ins)} (hd : stepS bs = some bs') (hT : TInv bs) : bs'.length ≤ bs.length ∧ fl bs' ≤ fl bs := by
 unfold stepS at hd
 cases hf : (List.range 5).find? fun i => (ruleS bs i).isSome with
 | none => rw [hf] at hd; cases hd
 | some i =>
  rw [hf] at hd
  have hd : ruleS bs i = some bs' := hd
  unfold ruleS at hd
  split at hd
  ·unfold decidedS at hd
   cases hq : (List.range bs.length).find? (dcB (reachF bs) bs) with
   | none => rw [hq] at hd; cases hd
   | some b =>
    rw [hq] at hd
    cases hd
    show (decAt bs b (((endI bs b).map goesI).getD (0, 0))).length ≤ bs.length ∧ fl (decAt bs b (((endI bs b).map goesI).getD (0, 0))) ≤ fl bs
    unfold decAt
    split
    ·exact ⟨by rw [List.length_set]; exact Nat.le_refl _, by rw [fl_setEnd]; exact Nat.le_refl _⟩
    ·exact ⟨by rw [loseB_len, List.length_set]; exact Nat.le_refl _, by rw [fl_loseB, fl_setEnd]; exact Nat.le_refl _⟩
  ·unfold twiceS at hd
   cases hq : (List.range bs.length).find? (twB (reachF bs) bs) with
   | none => rw [hq] at hd; cases hd
   | some b =>
    rw [hq] at hd
    cases hd
    exact ⟨by rw [List.length_set]; exact Nat.le_refl _, by rw [fl_setEnd]; exact Nat.le_refl _⟩
  ·unfold singleS at hd
   cases hq : (List.range bs.length).find? (sgB (reachF bs) bs) with
   | none => rw [hq] at hd; cases hd
   | some b =>
    rw [hq] at hd
    simp only [Option.bind_some] at hd
    cases hp : lonePhi (bs.getD b []) with
    | none => rw [hp] at hd; cases hd
    | some i =>
     rw [hp] at hd
     simp only [Option.bind_some] at hd
     cases hx : (bs.getD b [])[i]? with
     | none => rw [hx] at hd; cases hd
     | some x =>
      rw [hx] at hd
      simp only [Option.bind_some] at hd
      cases hv : loneS x with
      | none => rw [hv] at hd; cases hd
      | some v =>
       rw [hv] at hd
       cases hd
       unfold singleAt subAll
       rw [fl_map]
       refine ⟨by rw [List.length_map, List.length_set]; exact Nat.le_refl _, ?_⟩
       rcases Nat.lt_or_ge b bs.length with h | h
       ·have h1 : bs[b]? = some (bs.getD b []) := getD_at h
        have h2 := fl_set (l' := (bs.getD b []).eraseIdx i) h1
        have h3 := (List.eraseIdx_sublist (bs.getD b []) i).length_le
        omega
       ·rw [List.set_eq_of_length_le h]; exact Nat.le_refl _
  ·unfold unseenS at hd
   split at hd
   ·cases hd
    have h1 := fl_without (loseAll ((reachF bs).map fun r => !r) bs.length bs bs.length) ((reachF bs).map fun r => !r)
    rw [fl_loseAll, len_loseAll] at h1
    exact ⟨h1.2, h1.1⟩
   ·cases hd
  ·unfold mergedS at hd
   cases hq : (List.range bs.length).find? (mgB (predsL (succsF bs) bs.length) bs) with
   | none => rw [hq] at hd; cases hd
   | some a =>
    rw [hq] at hd
    cases hd
    show (withoutS ((List.replicate bs.length false).set (mgTo bs a) true) (mgAt bs a (mgTo bs a))).length ≤ bs.length ∧ fl (withoutS ((List.replicate bs.length false).set (mgTo bs a) true) (mgAt bs a (mgTo bs a))) ≤ fl bs
    obtain ⟨h1, h2, -⟩ := List.find?_range_eq_some.1 hq
    obtain ⟨b, la, lb, hb, hba, hb1, hbl, hla, hlb, -, -, -⟩ := mg_facts hT (List.mem_range.1 h2) h1
    rw [← hb]
    have h3 := fl_without (mgAt bs a b) ((List.replicate bs.length false).set b true)
    have h4 : (mgAt bs a b).length = bs.length := by unfold mgAt; rw [List.length_map, J_len]
    have h5 : fl (mgAt bs a b) ≤ fl bs := by
     unfold mgAt
     rw [fl_map]
     have hgb : bs.getD b [] = lb := by rw [List.getD_eq_getElem?_getD, hlb]; rfl
     have hga : bs.getD a [] = la := by rw [List.getD_eq_getElem?_getD, hla]; rfl
     unfold mgJoin
     rw [hga, hgb]
     have e2 : (bs.set a (la.dropLast ++ lb))[b]? = some lb := by rw [List.getElem?_set_ne (Ne.symm hba)]; exact hlb
     have e3 := fl_set (l' := la.dropLast ++ lb) hla
     have e4 := fl_set (l' := []) e2
     rw [List.length_append, List.length_dropLast] at e3
     simp only [List.length_nil] at e4
     omega
    omega
theorem all_le {f : Fun} (hp : f.params.length ≤ 2000000) : ∀ (k : Nat) (bs : List (List Ins)), TInv bs → mz bs ≤ k → (allS bs).length ≤ bs.length ∧ fl (allS bs) ≤ fl bs
 | k, bs, hT, hk => by
  cases hs : stepS bs with
  | none => rw [allS_none hs]; exact ⟨Nat.le_refl _, Nat.le_refl _⟩
  | some bs' =>
   have h1 := hT.step hs
   have h2 := step_le hs hT
   rw [allS_step (TInv.inv (f := f) hp) hT hs]
   match k with
   | 0 => omega
   | k + 1 =>
    have := all_le hp k bs' h1.1 (by omega)
    omega
end Go.Proofs.Ytamjcafjdioidaa

namespace Go.Proofs.Ytamjcafjdioidaa
open Go.RowKit Go.ChangeShapes Go.WideShapes Go.Deep
set_option linter.unusedSimpArgs false
set_option linter.unusedVariables false
abbrev Mod.v (x : Mod) (c d e : Value) : Value := .agg #[c, d, e]
def RMod : Rp Mod where
 rep w B cs x := ∃ c d e, cs = [c, d, e] ∧ RVrs.rep w B [c] x.vars ∧ RExts.rep w B [d] x.exts ∧ RFuns.rep w B [e] x.funcs
 keep := by
  rintro w w' B B' cs x ⟨c, d, e, h, h1, h2, h3⟩ hk hB
  exact ⟨c, d, e, h, RVrs.keep h1 hk hB, RExts.keep h2 hk hB, RFuns.keep h3 hk hB⟩
theorem mod_open {w : World} {B : Nat} {x : Mod} {c d e : Value} (h : RMod.rep w B [c, d, e] x) : RVrs.rep w B [c] x.vars ∧ RExts.rep w B [d] x.exts ∧ RFuns.rep w B [e] x.funcs := by
 obtain ⟨c', d', e', h, h1, h2, h3⟩ := h
 cases h
 exact ⟨h1, h2, h3⟩
theorem exts_at {w : World} {B : Nat} {d : Value} {l : List Ext} (h : RExts.rep w B [d] l) : ∃ A cap, d = .slice A l.length cap ∧ l.length ≤ 9223372036854775807 ∧ (0 < l.length → ∃ b off, A = some ⟨b, off, none⟩ ∧ ∀ i x, l[i]? = some x →
  ∃ c, RInts.rep w B [c] x.params ∧ (I64 x.ret ∧ x.name.size ≤ maxLen) ∧ Cells w B b (off + i * 3) [.string x.name, c, .int .i64 x.ret]) := by
 obtain ⟨A, cap, h1, h2, h3⟩ := Rp.slice_open h
 cases h1
 refine ⟨A, cap, rfl, h2, fun hp => ?_⟩
 obtain ⟨b, off, hA, he⟩ := h3 hp
 refine ⟨b, off, hA, fun i x hx => ?_⟩
 obtain ⟨es, hl, ⟨c, e, h4, h5, h6⟩, hcs⟩ := he i x hx
 subst e
 exact ⟨c, h4, ⟨h5, h6⟩, hcs⟩
theorem funs_at {w : World} {B : Nat} {d : Value} {l : List Fun} (h : RFuns.rep w B [d] l) : ∃ A cap, d = .slice A l.length cap ∧ l.length ≤ 9223372036854775807 ∧ (0 < l.length → ∃ b off, A = some ⟨b, off, none⟩ ∧ ∀ i x, l[i]? = some x →
  ∃ c e, RFun.rep w B [.string x.name, c, .int .i64 x.ret, e] x ∧ Cells w B b (off + i * 4) [.string x.name, c, .int .i64 x.ret, e]) := by
 obtain ⟨A, cap, h1, h2, h3⟩ := Rp.slice_open h
 cases h1
 refine ⟨A, cap, rfl, h2, fun hp => ?_⟩
 obtain ⟨b, off, hA, he⟩ := h3 hp
 refine ⟨b, off, hA, fun i x hx => ?_⟩
 obtain ⟨es, hl, hr, hcs⟩ := he i x hx
 obtain ⟨c, e, h4, _⟩ := id hr
 subst h4
 exact ⟨c, e, hr, hcs⟩
end Go.Proofs.Ytamjcafjdioidaa
