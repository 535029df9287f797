/- Texts of the chain, without what is not wanted: TdW, IrY. No condition but sizes. -/
import Derived.WalkKit
import Derived.Deep.Slices
import Derived.Deep.Draws
import Derived.ChangeSame
import Derived.ChangeOld
import Derived.OwnWalk
import Derived.Laws.OwnMore
import Derived.Deep.AppendLies
import Derived.Test.YtamjcafjdioidaaRows
import Derived.ProofKit
import Derived.OpenShut
import Derived.JoinedCond
import Derived.WalkSpells
import Derived.WalkLawsBesides
import Derived.Deep.RegionHeld3
import Derived.Deep.LoopGhost
import Derived.Deep.QuietTactic
import Derived.BigQuiet
import Derived.Deep.DeepCutAuto
import Derived.Deep.CutBlock
import Derived.StillTailTactics
import Derived.Deep.RegionLaw
import Derived.Lib.SliceRun
import Derived.Laws.IdiomCopy
import Derived.Deep.MidRow
import Derived.Lib.Overlaps
import Derived.RegionTactic
import Derived.Deep.RegionLawGrows
import Derived.Test.YtamjcafjdioidaaUm01
import Derived.Test.YtamjcafjdioidaaUm02
import Derived.Test.YtamjcafjdioidaaUm03
import Derived.Test.YtamjcafjdioidaaUm04
import Derived.Test.YtamjcafjdioidaaUm05
import Derived.Test.YtamjcafjdioidaaUm06
import Derived.Test.YtamjcafjdioidaaUm07
import Derived.Test.YtamjcafjdioidaaUm08
import Derived.Test.YtamjcafjdioidaaUm09
import Derived.Test.YtamjcafjdioidaaUm10
import Derived.Test.YtamjcafjdioidaaUm11
import Derived.Test.YtamjcafjdioidaaUm12
import Derived.Test.YtamjcafjdioidaaUm13
import Derived.Test.YtamjcafjdioidaaUm14
import Derived.Test.YtamjcafjdioidaaUm15
import Derived.Test.YtamjcafjdioidaaUm16
import Derived.Test.YtamjcafjdioidaaUm17
import Derived.Test.YtamjcafjdioidaaUm18
import Derived.Test.YtamjcafjdioidaaUm19
import Derived.Test.YtamjcafjdioidaaUm20
import Derived.Test.YtamjcafjdioidaaUm21
import Derived.Test.YtamjcafjdioidaaUm22
import Derived.Test.YtamjcafjdioidaaUm23
import Derived.Test.YtamjcafjdioidaaUm24
import Derived.Test.YtamjcafjdioidaaUm25
import Derived.Test.YtamjcafjdioidaaUm26
import Derived.Test.YtamjcafjdioidaaUm27
import Derived.Test.YtamjcafjdioidaaUm28
import Derived.Test.YtamjcafjdioidaaUm29
import Derived.Test.YtamjcafjdioidaaUm30
import Derived.Test.YtamjcafjdioidaaUm31
import Derived.Test.YtamjcafjdioidaaUm32
import Derived.Test.YtamjcafjdioidaaUm33
import Derived.Test.YtamjcafjdioidaaUm34
import Derived.Test.YtamjcafjdioidaaUm35
import Derived.Test.YtamjcafjdioidaaUm36
namespace Go.Proofs.Ytamjcafjdioidaa
set_option linter.unusedVariables false
set_option linter.unusedSimpArgs false
def deadB : List Ins := [⟨34, -1, 0, 0, 0, [], []⟩]
section
variable {bs : List (List Ins)}
theorem app_at {c : Nat} (hc : c < bs.length) (l : List Ins) : (bs ++ [l])[c]? = bs[c]? := List.getElem?_append_left hc
theorem app_getD {c : Nat} (hc : c < bs.length) (l z : List Ins) : (bs ++ [l]).getD c z = bs.getD c z := by
 rw [List.getD_eq_getElem?_getD, List.getD_eq_getElem?_getD, app_at hc]
theorem app_set {b : Nat} (hb : b < bs.length) (l l' : List Ins) : (bs ++ [l]).set b l' = bs.set b l' ++ [l] := List.set_append_left _ _ hb
theorem app_end {c : Nat} (hc : c < bs.length) (l : List Ins) : endI (bs ++ [l]) c = endI bs c := by unfold endI; rw [app_at hc]
theorem app_loseB {p : Int} {k : Nat} (hk : k < bs.length) (l : List Ins) : loseB p (bs ++ [l]) k = loseB p bs k ++ [l] := by
 unfold loseB
 rw [app_getD hk, app_set hk]
theorem find_app {n : Nat} {p q : Nat → Bool} (h : ∀ i, i < n → q i = p i) (hn : q n = false) : (List.range (n + 1)).find? q = (List.range n).find? p := by
 rw [List.range_succ, List.find?_append]
 have e1 : (List.range n).find? q = (List.range n).find? p := by
  have key : ∀ l : List Nat, (∀ i, i ∈ l → q i = p i) → l.find? q = l.find? p := by
   intro l
   induction l with
   | nil => intro _; rfl
   | cons a l ih =>
    intro hl
    rw [List.find?_cons, List.find?_cons, hl a (List.mem_cons_self ..), ih fun i hi => hl i (List.mem_cons_of_mem _ hi)]
  exact key _ fun i hi => h i (List.mem_range.1 hi)
 rw [e1]
 have e2 : [n].find? q = none := by simp [hn]
 rw [e2]
 cases (List.range n).find? p <;> rfl
theorem succsL_wide {n : Nat} {tl : List Int} (h : ∀ t, t ∈ tl → 0 ≤ t ∧ t < n) : succsL (n + 1) tl = succsL n tl := by
 unfold succsL
 have key : ∀ (tl acc : List Int), (∀ t, t ∈ tl → 0 ≤ t ∧ t < n) → tl.foldl (keepS (n + 1)) acc = tl.foldl (keepS n) acc := by
  intro tl
  induction tl with
  | nil => intro acc _; rfl
  | cons t tl ih =>
   intro acc h
   rw [List.foldl_cons, List.foldl_cons, ih _ fun s hs => h s (List.mem_cons_of_mem _ hs)]
   congr 1
   have ht := h t (List.mem_cons_self ..)
   unfold keepS
   by_cases hm : t ∈ acc
   ·rw [if_neg (fun e => e.2.2 hm), if_neg (fun e => e.2.2 hm)]
   ·rw [if_pos ⟨ht.1, by omega, hm⟩, if_pos ⟨ht.1, ht.2, hm⟩]
 exact key tl [] h
theorem succsF_app (h : TInv bs) : succsF (bs ++ [deadB]) = succsF bs := by
 funext p
 unfold succsF
 by_cases hp : 0 ≤ p
 ·rw [if_pos hp, if_pos hp]
  by_cases hl : p.toNat < bs.length
  ·rw [app_at hl]
   cases hq : bs[p.toNat]? with
   | none => rfl
   | some l =>
    show succsB (bs ++ [deadB]).length l = succsB bs.length l
    rw [List.length_append, List.length_singleton]
    unfold succsB
    cases hx : l.getLast? with
    | none => simp only [hx]
    | some x =>
     simp only [hx]
     rw [succsL_wide fun t ht => (h.loc _ l hq).wf.to_ x (List.mem_of_getLast? hx) t ht]
  ·have e1 : bs[p.toNat]? = none := List.getElem?_eq_none (by omega)
   rw [e1]
   by_cases e : p.toNat = bs.length
   ·rw [e, List.getElem?_append_right (Nat.le_refl _), Nat.sub_self]
    rfl
   ·rw [List.getElem?_append_right (by omega), List.getElem?_eq_none (by simp; omega)]
 ·rw [if_neg hp, if_neg hp]
theorem reachF_app (h : TInv bs) : reachF (bs ++ [deadB]) = reachF bs ++ [false] := by
 have hs := succsF_app h
 apply List.ext_getElem?
 intro k
 have hpos := h.pos
 by_cases hk : k < bs.length
 ·rw [List.getElem?_append_left (by rw [reach_len]; exact hk), reach_at _ k hk, reach_at _ k (by rw [List.length_append]; omega)]
  congr 2
  have e1 := (order_ok bs).mem (k : Int)
  have e2 := (order_ok (bs ++ [deadB])).mem (k : Int)
  rw [hs] at e2
  rw [eq_iff_iff, e1, e2]
  constructor
  ·rintro ⟨-, h1⟩; exact ⟨hpos, h1⟩
  ·rintro ⟨-, h1⟩; exact ⟨by rw [List.length_append]; omega, h1⟩
 ·by_cases e : k = bs.length
  ·subst e
   rw [reach_at _ _ (by rw [List.length_append, List.length_singleton]; omega), List.getElem?_append_right (by rw [reach_len]; omega), reach_len, Nat.sub_self]
   have e2 := (order_ok (bs ++ [deadB])).mem (bs.length : Int)
   have hno : ¬ ((bs.length : Int) ∈ orderF (bs ++ [deadB])) := by
    rw [e2, hs]
    rintro ⟨-, h1⟩
    have key : ∀ x, Rch (succsF bs) x → x < bs.length := fun x hx => by
     cases hx with
     | start => omega
     | step h2 h3 =>
      unfold succsF at h3
      split at h3
      ·split at h3
       ·cases h3
       ·rename_i l hl
        unfold succsB at h3
        split at h3
        ·cases h3
        ·split at h3
         ·exact (succsL_mem.1 h3).2.2
         ·cases h3
      ·cases h3
    have := key _ h1
    omega
   simp [hno]
  ·rw [List.getElem?_eq_none (by rw [reach_len, List.length_append, List.length_singleton]; omega), List.getElem?_eq_none (by rw [List.length_append, reach_len, List.length_singleton]; omega)]
theorem getD_app {R : List Bool} {k : Nat} (hk : k < R.length) (b z : Bool) : (R ++ [b]).getD k z = R.getD k z := by
 rw [List.getD_eq_getElem?_getD, List.getD_eq_getElem?_getD, List.getElem?_append_left hk]
theorem decided_app (h : TInv bs) : decidedS (reachF (bs ++ [deadB])) (bs ++ [deadB]) = (decidedS (reachF bs) bs).map fun x => x ++ [deadB] := by
 rw [reachF_app h]
 unfold decidedS
 rw [List.length_append, List.length_singleton, find_app (p := dcB (reachF bs) bs)]
 ·cases hf : (List.range bs.length).find? (dcB (reachF bs) bs) with
  | none => rfl
  | some b =>
   simp only [Option.map_some, Option.some.injEq]
   obtain ⟨h1, h2, -⟩ := List.find?_range_eq_some.1 hf
   have hbl := List.mem_range.1 h2
   have hb : bs[b]? = some (bs.getD b []) := getD_at hbl
   rw [app_end hbl]
   unfold dcB at h1
   cases he : endI bs b with
   | none => rw [he] at h1; simp at h1
   | some x =>
    rw [he] at h1
    have h32 : x.op = 32 := by simp at h1; exact h1.2.1
    have hx : (bs.getD b []).getLast? = some x := by rw [← endI_last hb]; exact he
    have hxm := List.mem_of_getLast? hx
    obtain ⟨hto, -⟩ := (h.loc b _ hb).wf.brif x hxm h32
    have hr := (h.loc b _ hb).wf.to_ x hxm
    have ho : (goesI x).2.toNat < bs.length := by
     obtain ⟨t0, t1, hto⟩ : ∃ t0 t1, x.to = [t0, t1] := by
      match h9 : x.to, hto with
      | [a, b], _ => exact ⟨a, b, rfl⟩
     have r0 := hr t0 (by rw [hto]; simp)
     have r1 := hr t1 (by rw [hto]; simp)
     unfold goesI
     rw [hto]
     split
     ·show t1.toNat < _; omega
     ·show t0.toNat < _; omega
    simp only [Option.map_some, Option.getD_some]
    unfold decAt
    by_cases e : (goesI x).2 = (goesI x).1
    ·rw [if_pos e, if_pos e, app_getD hbl, app_set hbl]
    ·rw [if_neg e, if_neg e, app_getD hbl, app_set hbl, app_loseB (by rw [List.length_set]; exact ho)]
 ·intro i hi
  unfold dcB
  rw [getD_app (by rw [reach_len]; exact hi), app_end hi]
 ·unfold dcB
  rw [List.getD_eq_getElem?_getD, List.getElem?_append_right (by rw [reach_len]; omega), reach_len, Nat.sub_self]
  rfl
theorem twice_app (h : TInv bs) : twiceS (reachF (bs ++ [deadB])) (bs ++ [deadB]) = (twiceS (reachF bs) bs).map fun x => x ++ [deadB] := by
 rw [reachF_app h]
 unfold twiceS
 rw [List.length_append, List.length_singleton, find_app (p := twB (reachF bs) bs)]
 ·cases hf : (List.range bs.length).find? (twB (reachF bs) bs) with
  | none => rfl
  | some b =>
   simp only [Option.map_some, Option.some.injEq]
   obtain ⟨-, h2, -⟩ := List.find?_range_eq_some.1 hf
   have hbl := List.mem_range.1 h2
   rw [app_end hbl, app_getD hbl, app_set hbl]
 ·intro i hi
  unfold twB
  rw [getD_app (by rw [reach_len]; exact hi), app_end hi]
 ·unfold twB
  rw [List.getD_eq_getElem?_getD, List.getElem?_append_right (by rw [reach_len]; omega), reach_len, Nat.sub_self]
  rfl
theorem single_app (h : TInv bs) : singleS (reachF (bs ++ [deadB])) (bs ++ [deadB]) = (singleS (reachF bs) bs).map fun x => x ++ [deadB] := by
 rw [reachF_app h]
 unfold singleS
 rw [List.length_append, List.length_singleton, find_app (p := sgB (reachF bs) bs)]
 ·cases hf : (List.range bs.length).find? (sgB (reachF bs) bs) with
  | none => rfl
  | some b =>
   obtain ⟨-, h2, -⟩ := List.find?_range_eq_some.1 hf
   have hbl := List.mem_range.1 h2
   simp only [Option.bind_some]
   rw [app_getD hbl]
   cases lonePhi (bs.getD b []) with
   | none => rfl
   | some i =>
    simp only [Option.bind_some]
    cases (bs.getD b [])[i]? with
    | none => rfl
    | some x =>
     simp only [Option.bind_some]
     cases loneS x with
     | none => rfl
     | some v =>
      simp only [Option.map_some, Option.some.injEq]
      unfold singleAt
      rw [app_getD hbl, app_set hbl]
      unfold subAll
      rw [List.map_append]
      rfl
 ·intro i hi
  unfold sgB
  rw [getD_app (by rw [reach_len]; exact hi), app_getD hi]
 ·unfold sgB
  rw [List.getD_eq_getElem?_getD, List.getElem?_append_right (by rw [reach_len]; omega), reach_len, Nat.sub_self]
  rfl
theorem leftN_app {gone : List Bool} {t : Nat} (ht : t ≤ gone.length) (b : Bool) : leftN (gone ++ [b]) t = leftN gone t := by
 unfold leftN
 rw [List.take_append_of_le_length ht]
theorem keptN_app {gone : List Bool} : keptN (gone ++ [true]) (gone.length + 1) = keptN gone gone.length := by
 have h1 : (gone ++ [true])[gone.length]? = some true := by rw [List.getElem?_append_right (Nat.le_refl _), Nat.sub_self]; rfl
 rw [keptN_next h1, if_pos rfl, List.append_nil]
 unfold keptN
 refine List.filter_congr fun c hc => ?_
 rw [getD_app (List.mem_range.1 hc)]
theorem dropG_app {gone : List Bool} (k : Nat) (hk : k ≤ gone.length) (l : List Ins) : dropG (gone ++ [true]) k l = dropG gone k l := by
 induction k with
 | zero => rfl
 | succ k ih => rw [dropG_next, dropG_next, ih (by omega), getD_app (by omega)]
theorem lose_out {n : Nat} {l : List Ins} (h : LInv n l) : loseL (n : Int) l = l := by
 rw [loseL_map h.fr]
 refine (List.map_congr_left (g := id) fun x hx => ?_).trans (List.map_id _)
 unfold dropPhi
 split
 ·refine dropP_no fun hm => ?_
  have := h.wf.to_ x hx _ hm
  omega
 ·rfl
theorem renI_app {gone : List Bool} {l : List Ins} (h : LInv gone.length l) : l.map (renI (gone ++ [true])) = l.map (renI gone) := by
 refine List.map_congr_left fun x hx => ?_
 unfold renI
 congr 1
 refine List.map_congr_left fun t ht => ?_
 have := h.wf.to_ x hx t ht
 unfold renT
 rw [leftN_app (by omega)]
theorem unseen_app (h : TInv bs) {gone : List Bool} (hg : gone.length = bs.length) : withoutS (gone ++ [true]) (loseAll (gone ++ [true]) (bs.length + 1) (bs ++ [deadB]) (bs.length + 1)) = withoutS gone (loseAll gone bs.length bs bs.length) := by
 have hl2 : (bs ++ [deadB]).length = bs.length + 1 := by rw [List.length_append, List.length_singleton]
 have ht := fun c => loseAll_at (gone := gone ++ [true]) (n := bs.length + 1) (bs := bs ++ [deadB]) c (bs.length + 1) (by omega)
 have ht' := fun c => loseAll_at (gone := gone) (n := bs.length) (bs := bs) c bs.length (Nat.le_refl _)
 unfold withoutS
 rw [(ht 0).1, (ht' 0).1, hl2, ← hg, keptN_app]
 refine List.map_congr_left fun c hc => ?_
 have hk := keptN_kept hc
 rw [hg] at hk
 obtain ⟨l, hl⟩ : ∃ l, bs[c]? = some l := ⟨_, List.getElem?_eq_getElem hk.1⟩
 have hli := h.loc c l hl
 obtain ⟨d1, d2⟩ := dropG_map gone hli bs.length
 have hkc : gone.getD c false = false := hk.2
 have e1 : (loseAll gone bs.length bs bs.length).getD c [] = dropG gone bs.length l := by
  rw [List.getD_eq_getElem?_getD, (ht' c).2, hl]
  simp only [Option.map_some, Option.getD_some]
  rw [if_pos ⟨hk.1, hkc⟩]
 have e2 : (loseAll (gone ++ [true]) (bs.length + 1) (bs ++ [deadB]) (bs.length + 1)).getD c [] = dropG gone bs.length l := by
  rw [List.getD_eq_getElem?_getD, (ht c).2, app_at hk.1, hl]
  simp only [Option.map_some, Option.getD_some]
  rw [if_pos ⟨by omega, by rw [getD_app (by omega)]; exact hkc⟩, dropG_next, dropG_app _ (by omega)]
  have e3 : (gone ++ [true]).getD bs.length false = true := by
   rw [List.getD_eq_getElem?_getD, List.getElem?_append_right (by omega), hg, Nat.sub_self]; rfl
  rw [e3, if_pos rfl]
  exact lose_out d2
 rw [hg, e1, e2]
 exact renI_app (by rw [hg]; exact d2)
theorem leftN_all {gone : List Bool} (h : ∀ g, g ∈ gone → g = false) : ∀ {t : Nat}, t ≤ gone.length → leftN gone t = t
 | 0, _ => by simp [leftN]
 | t + 1, ht => by
  have h1 : gone[t]? = some (gone[t]'(by omega)) := List.getElem?_eq_getElem _
  rw [leftN_next h1, leftN_all h (by omega), h _ (List.mem_of_getElem? h1)]
  rfl
theorem getD_all {gone : List Bool} (h : ∀ g, g ∈ gone → g = false) (k : Nat) : gone.getD k false = false := by
 rw [List.getD_eq_getElem?_getD]
 cases hk : gone[k]? with
 | none => rfl
 | some g => exact h g (List.mem_of_getElem? hk)
theorem dropG_none {gone : List Bool} (h : ∀ g, g ∈ gone → g = false) (l : List Ins) : ∀ k, dropG gone k l = l
 | 0 => rfl
 | k + 1 => by rw [dropG_next, dropG_none h l k, getD_all h k]; rfl
theorem unseen_all (h : TInv bs) {gone : List Bool} (hg : gone.length = bs.length) (hn : ∀ g, g ∈ gone → g = false) : withoutS gone (loseAll gone bs.length bs bs.length) = bs := by
 have ht' := fun c => loseAll_at (gone := gone) (n := bs.length) (bs := bs) c bs.length (Nat.le_refl _)
 have hk : ∀ c, Kept gone c := fun c => getD_all hn c
 apply List.ext_getElem?
 intro c
 by_cases hc : c < bs.length
 ·obtain ⟨l, hl⟩ : ∃ l, bs[c]? = some l := ⟨_, List.getElem?_eq_getElem hc⟩
  have e1 : (loseAll gone bs.length bs bs.length)[c]? = some l := by
   rw [(ht' c).2, hl]
   simp only [Option.map_some, Option.some.injEq]
   rw [dropG_none hn]
   simp
  have e2 := without_get (gone := gone) _ e1 (by rw [(ht' 0).1]; omega) (hk c)
  rw [leftN_all hn (by omega)] at e2
  rw [e2, hl]
  congr 1
  refine (List.map_congr_left (g := id) fun x hx => ?_).trans (List.map_id _)
  unfold renI setTo
  have e3 : x.to.map (renT gone) = x.to := by
   refine (List.map_congr_left (g := id) fun t ht => ?_).trans (List.map_id _)
   have := (h.loc c l hl).wf.to_ x hx t ht
   unfold renT
   rw [leftN_all hn (by omega)]
   show ((t.toNat : Nat) : Int) = t
   omega
  rw [e3]
  rfl
 ·have a1 : (withoutS gone (loseAll gone bs.length bs bs.length)).length ≤ c := by
   rw [without_len, (ht' 0).1]
   have := keptN_len (gone := gone) (b := bs.length) (by omega)
   rw [this]
   have := leftN_le gone bs.length
   omega
  rw [List.getElem?_eq_none a1, List.getElem?_eq_none (by omega)]
theorem deadB_inv {n : Nat} : LInv n deadB := by
 have hm : ∀ x, x ∈ deadB → x = ⟨34, -1, 0, 0, 0, [], []⟩ := fun x hx => List.mem_singleton.1 hx
 refine ⟨⟨by simp [deadB], fun x hx ho => ?_, fun x hx ho => ?_, fun x hx ho => ?_, fun x hx t ht => ?_⟩, fun i j x y hi hj hij ho => ?_, fun i x hi hl => ?_, fun x hx => ?_, fun x hx ho => ?_, fun x hx => ?_⟩
 ·rw [hm x hx] at ho; cases ho
 ·rw [hm x hx] at ho; cases ho
 ·rw [hm x hx] at ho; cases ho
 ·rw [hm x hx] at ht; cases ht
 ·rw [hm y (List.mem_of_getElem? hj)] at ho; cases ho
 ·simp [deadB] at hl
 ·cases hx
  exact ⟨by decide, .inr (.inr rfl), fun t ht => by cases ht⟩
 ·rw [hm x hx] at ho; cases ho
 ·rw [hm x hx]; exact ⟨by simp, by simp⟩
theorem LInv.wide {n m : Nat} {l : List Ins} (h : LInv n l) (hm : n ≤ m) : LInv m l := ⟨⟨h.wf.ne, h.wf.brif, h.wf.br, h.wf.phi, fun x hx t ht => by have := h.wf.to_ x hx t ht; omega⟩, h.fr, h.mid, h.fin, h.srt, h.sz⟩
theorem TInv.app (h : TInv bs) (hs : mz bs + 2 ≤ 2000000) : TInv (bs ++ [deadB]) := by
 have hend : ∀ p c, EndTo (bs ++ [deadB]) p c ↔ EndTo bs p c := fun p c => by
  by_cases hp : p < bs.length
  ·unfold EndTo; rw [app_end hp]
  ·constructor
   ·rintro ⟨x, h1, h2, h3⟩
    by_cases e : p = bs.length
    ·subst e
     have : (bs ++ [deadB])[bs.length]? = some deadB := by rw [List.getElem?_append_right (Nat.le_refl _), Nat.sub_self]; rfl
     rw [endI_last this] at h1
     cases h1
     cases h3
    ·have := endTo_lt ⟨x, h1, h2, h3⟩
     rw [List.length_append, List.length_singleton] at this
     omega
   ·intro h1; have := endTo_lt h1; omega
 have hat : ∀ (c : Nat) l, (bs ++ [deadB])[c]? = some l → (bs[c]? = some l) ∨ l = deadB := fun c l hl => by
  by_cases hc : c < bs.length
  ·rw [app_at hc] at hl; exact .inl hl
  ·rw [List.getElem?_append_right (by omega)] at hl
   exact .inr (List.mem_singleton.1 (List.mem_of_getElem? hl))
 refine ⟨by simp, ?_, fun c l hl => ?_, fun c l hl x hx ho => ?_⟩
 ·rw [mz_append]
  have : mz [deadB] = 2 := rfl
  omega
 ·rw [List.length_append, List.length_singleton]
  rcases hat c l hl with h1 | h1
  ·exact (h.loc c l h1).wide (by omega)
  ·rw [h1]; exact deadB_inv
 ·rcases hat c l hl with h1 | h1
  ·obtain ⟨g1, g2⟩ := h.phi c l h1 x hx ho
   exact ⟨g1, fun p => by rw [g2 p, hend]⟩
  ·subst h1
   rw [List.mem_singleton.1 hx] at ho
   cases ho
theorem stepS_cases (bs : List (List Ins)) : stepS bs = ((decidedS (reachF bs) bs).or ((twiceS (reachF bs) bs).or ((singleS (reachF bs) bs).or ((unseenS (reachF bs) bs).or (mergedS (predsL (succsF bs) bs.length) bs))))) := by
 have e : List.range 5 = [0, 1, 2, 3, 4] := rfl
 unfold stepS
 rw [e]
 cases h0 : decidedS (reachF bs) bs with
 | some x => simp [ruleS, h0]
 | none =>
  cases h1 : twiceS (reachF bs) bs with
  | some x => simp [ruleS, h0, h1]
  | none =>
   cases h2 : singleS (reachF bs) bs with
   | some x => simp [ruleS, h0, h1, h2]
   | none =>
    cases h3 : unseenS (reachF bs) bs with
    | some x => simp [ruleS, h0, h1, h2, h3]
    | none =>
     cases h4 : mergedS (predsL (succsF bs) bs.length) bs with
     | some x => simp [ruleS, h0, h1, h2, h3, h4]
     | none => simp [ruleS, h0, h1, h2, h3, h4]
theorem all_app {f : Fun} (hp : f.params.length ≤ 2000000) : ∀ (k : Nat) (bs : List (List Ins)), TInv bs → mz bs ≤ k → mz bs + 2 ≤ 2000000 → allS (bs ++ [deadB]) = allS bs
 | 0, bs, h, hk, _ => by have := mz_len bs; have := h.pos; omega
 | k + 1, bs, h, hk, hs => by
  have hinv := TInv.inv (f := f) hp
  have hA := h.app hs
  have e0 := decided_app h
  have e1 := twice_app h
  have e2 := single_app h
  -- one of the first three
  have first : ∀ bs', stepS bs = some bs' → stepS (bs ++ [deadB]) = some (bs' ++ [deadB]) → allS (bs ++ [deadB]) = allS bs := fun bs' h1 h2 => by
   obtain ⟨g1, g2⟩ := h.step h1
   rw [allS_step hinv h h1, allS_step hinv hA h2]
   exact all_app hp k bs' g1 (by omega) (by omega)
  cases h0 : decidedS (reachF bs) bs with
  | some x => exact first x (by rw [stepS_cases, h0]; rfl) (by rw [stepS_cases, e0, h0]; rfl)
  | none =>
   cases h1 : twiceS (reachF bs) bs with
   | some x => exact first x (by rw [stepS_cases, h0, h1]; rfl) (by rw [stepS_cases, e0, e1, h0, h1]; rfl)
   | none =>
    cases h2 : singleS (reachF bs) bs with
    | some x => exact first x (by rw [stepS_cases, h0, h1, h2]; rfl) (by rw [stepS_cases, e0, e1, e2, h0, h1, h2]; rfl)
    | none =>
     have hU : unseenS (reachF (bs ++ [deadB])) (bs ++ [deadB]) = some (withoutS ((reachF bs).map fun r => !r) (loseAll ((reachF bs).map fun r => !r) bs.length bs bs.length)) := by
      unfold unseenS
      rw [reachF_app h, if_pos (by simp), List.map_append, List.length_append, List.length_singleton]
      exact congrArg some (unseen_app h (by rw [List.length_map, reach_len]))
     have h3 : stepS (bs ++ [deadB]) = some (withoutS ((reachF bs).map fun r => !r) (loseAll ((reachF bs).map fun r => !r) bs.length bs bs.length)) := by
      rw [stepS_cases, e0, e1, e2, h0, h1, h2, hU]
      rfl
     rw [allS_step hinv hA h3]
     by_cases hany : (reachF bs).any (fun r => !r) = true
     ·have h4 : stepS bs = some (withoutS ((reachF bs).map fun r => !r) (loseAll ((reachF bs).map fun r => !r) bs.length bs bs.length)) := by
       rw [stepS_cases, h0, h1, h2]
       unfold unseenS
       rw [if_pos hany]
       rfl
      rw [allS_step hinv h h4]
     ·rw [unseen_all h (by rw [List.length_map, reach_len]) fun g hg => ?_]
      obtain ⟨r, hr, rfl⟩ := List.mem_map.1 hg
      cases r with
      | true => rfl
      | false => exact absurd (List.any_eq_true.2 ⟨false, hr, rfl⟩) hany
end
end Go.Proofs.Ytamjcafjdioidaa

namespace Go.Proofs.Ytamjcafjdioidaa
open Go.RowKit Go.ChangeShapes Go.WideShapes Go.Deep
set_option linter.unusedSimpArgs false
set_option linter.unusedVariables false
abbrev Mod.v (x : Mod) (c d e : Value) : Value := .agg #[c, d, e]
def RMod : Rp Mod where
 rep w B cs x := ∃ c d e, cs = [c, d, e] ∧ RVrs.rep w B [c] x.vars ∧ RExts.rep w B [d] x.exts ∧ RFuns.rep w B [e] x.funcs
 keep := by
  rintro w w' B B' cs x ⟨c, d, e, h, h1, h2, h3⟩ hk hB
  exact ⟨c, d, e, h, RVrs.keep h1 hk hB, RExts.keep h2 hk hB, RFuns.keep h3 hk hB⟩
theorem mod_open {w : World} {B : Nat} {x : Mod} {c d e : Value} (h : RMod.rep w B [c, d, e] x) : RVrs.rep w B [c] x.vars ∧ RExts.rep w B [d] x.exts ∧ RFuns.rep w B [e] x.funcs := by
 obtain ⟨c', d', e', h, h1, h2, h3⟩ := h
 cases h
 exact ⟨h1, h2, h3⟩
theorem exts_at {w : World} {B : Nat} {d : Value} {l : List Ext} (h : RExts.rep w B [d] l) : ∃ A cap, d = .slice A l.length cap ∧ l.length ≤ 9223372036854775807 ∧ (0 < l.length → ∃ b off, A = some ⟨b, off, none⟩ ∧ ∀ i x, l[i]? = some x →
  ∃ c, RInts.rep w B [c] x.params ∧ (I64 x.ret ∧ x.name.size ≤ maxLen) ∧ Cells w B b (off + i * 3) [.string x.name, c, .int .i64 x.ret]) := by
 obtain ⟨A, cap, h1, h2, h3⟩ := Rp.slice_open h
 cases h1
 refine ⟨A, cap, rfl, h2, fun hp => ?_⟩
 obtain ⟨b, off, hA, he⟩ := h3 hp
 refine ⟨b, off, hA, fun i x hx => ?_⟩
 obtain ⟨es, hl, ⟨c, e, h4, h5, h6⟩, hcs⟩ := he i x hx
 subst e
 exact ⟨c, h4, ⟨h5, h6⟩, hcs⟩
theorem funs_at {w : World} {B : Nat} {d : Value} {l : List Fun} (h : RFuns.rep w B [d] l) : ∃ A cap, d = .slice A l.length cap ∧ l.length ≤ 9223372036854775807 ∧ (0 < l.length → ∃ b off, A = some ⟨b, off, none⟩ ∧ ∀ i x, l[i]? = some x →
  ∃ c e, RFun.rep w B [.string x.name, c, .int .i64 x.ret, e] x ∧ Cells w B b (off + i * 4) [.string x.name, c, .int .i64 x.ret, e]) := by
 obtain ⟨A, cap, h1, h2, h3⟩ := Rp.slice_open h
 cases h1
 refine ⟨A, cap, rfl, h2, fun hp => ?_⟩
 obtain ⟨b, off, hA, he⟩ := h3 hp
 refine ⟨b, off, hA, fun i x hx => ?_⟩
 obtain ⟨es, hl, hr, hcs⟩ := he i x hx
 obtain ⟨c, e, h4, _⟩ := id hr
 subst h4
 exact ⟨c, e, hr, hcs⟩
end Go.Proofs.Ytamjcafjdioidaa
