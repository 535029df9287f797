/- Texts of the chain, without what is not wanted: IcC, IcD. No condition but sizes. -/
import Derived.WalkKit
import Derived.Deep.Slices
import Derived.Deep.Draws
import Derived.ChangeSame
import Derived.ChangeOld
import Derived.OwnWalk
import Derived.Laws.OwnMore
import Derived.Deep.AppendLies
import Derived.Test.YtamjcafjdioidaaRows
import Derived.ProofKit
import Derived.OpenShut
import Derived.JoinedCond
import Derived.WalkSpells
import Derived.WalkLawsBesides
import Derived.Deep.RegionHeld3
import Derived.Deep.LoopGhost
import Derived.Deep.QuietTactic
import Derived.BigQuiet
import Derived.Deep.DeepCutAuto
import Derived.Deep.CutBlock
import Derived.StillTailTactics
import Derived.RegionTactic
import Derived.Test.YtamjcafjdioidaaUz01
import Derived.Test.YtamjcafjdioidaaUz02
import Derived.Test.YtamjcafjdioidaaUz04
import Derived.Test.YtamjcafjdioidaaUz16
namespace Go.Proofs.Ytamjcafjdioidaa
open Go.RowKit
set_option linter.unusedVariables false
def setArgs (x : Ins) (l : List Opd) : Ins := ⟨x.op, x.reg, x.ty, x.num, x.flags, l, x.to⟩
def subIns (σ : Opd → Opd) (x : Ins) : Ins := setArgs x (x.args.map σ)
def subAll (σ : Opd → Opd) (bs : List (List Ins)) : List (List Ins) := bs.map fun c => c.map (subIns σ)
def DoneA (i k j p q r : Nat) : Prop := p < i ∨ (p = i ∧ (q < k ∨ (q = k ∧ r < j)))
instance (i k j p q r : Nat) : Decidable (DoneA i k j p q r) := by unfold DoneA; exact inferInstance
def progAr (σ : Opd → Opd) (i k j p q : Nat) (l : List Opd) : List Opd := l.mapIdx fun r t => if DoneA i k j p q r then σ t else t
def progInsA (σ : Opd → Opd) (i k j p q : Nat) (x : Ins) : Ins := setArgs x (progAr σ i k j p q x.args)
def progCodeA (σ : Opd → Opd) (i k j p : Nat) (c : List Ins) : List Ins := c.mapIdx fun q x => progInsA σ i k j p q x
def progA (σ : Opd → Opd) (i k j : Nat) (bs : List (List Ins)) : List (List Ins) := bs.mapIdx fun p c => progCodeA σ i k j p c
section
variable {σ : Opd → Opd} {i k j : Nat} {bs : List (List Ins)}
theorem progA_len : (progA σ i k j bs).length = bs.length := by simp [progA]
theorem progA_at {p : Nat} {c : List Ins} (h : bs[p]? = some c) : (progA σ i k j bs)[p]? = some (progCodeA σ i k j p c) := by simp [progA, h]
theorem progCodeA_len {p : Nat} {c : List Ins} : (progCodeA σ i k j p c).length = c.length := by simp [progCodeA]
theorem progCodeA_at {p q : Nat} {c : List Ins} {x : Ins} (h : c[q]? = some x) : (progCodeA σ i k j p c)[q]? = some (progInsA σ i k j p q x) := by simp [progCodeA, h]
theorem progAr_len {p q : Nat} {l : List Opd} : (progAr σ i k j p q l).length = l.length := by simp [progAr]
theorem progAr_at {p q r : Nat} {l : List Opd} {t : Opd} (h : l[r]? = some t) : (progAr σ i k j p q l)[r]? = some (if DoneA i k j p q r then σ t else t) := by simp [progAr, h]
theorem progAr_same {i' k' j' p q : Nat} {l : List Opd} (h : ∀ r, r < l.length → (DoneA i k j p q r ↔ DoneA i' k' j' p q r)) : progAr σ i k j p q l = progAr σ i' k' j' p q l := by
 refine List.ext_getElem? fun r => ?_
 cases hr : l[r]? with
 | none => rw [List.getElem?_eq_none (by rw [progAr_len]; exact List.getElem?_eq_none_iff.1 hr), List.getElem?_eq_none (by rw [progAr_len]; exact List.getElem?_eq_none_iff.1 hr)]
 | some t =>
  rw [progAr_at hr, progAr_at hr]
  have := h r (List.getElem?_eq_some_iff.1 hr).1
  by_cases hd : DoneA i k j p q r
  ·rw [if_pos hd, if_pos (this.1 hd)]
  ·rw [if_neg hd, if_neg fun h' => hd (this.2 h')]
theorem progCodeA_same {i' k' j' p : Nat} {c : List Ins} (h : ∀ q x, c[q]? = some x → ∀ r, r < x.args.length → (DoneA i k j p q r ↔ DoneA i' k' j' p q r)) : progCodeA σ i k j p c = progCodeA σ i' k' j' p c := by
 refine List.ext_getElem? fun q => ?_
 cases hq : c[q]? with
 | none => rw [List.getElem?_eq_none (by rw [progCodeA_len]; exact List.getElem?_eq_none_iff.1 hq), List.getElem?_eq_none (by rw [progCodeA_len]; exact List.getElem?_eq_none_iff.1 hq)]
 | some x =>
  rw [progCodeA_at hq, progCodeA_at hq]
  unfold progInsA
  rw [progAr_same (h q x hq)]
theorem progA_same {i' k' j' : Nat} (h : ∀ p c, bs[p]? = some c → ∀ q x, c[q]? = some x → ∀ r, r < x.args.length → (DoneA i k j p q r ↔ DoneA i' k' j' p q r)) : progA σ i k j bs = progA σ i' k' j' bs := by
 refine List.ext_getElem? fun p => ?_
 cases hp : bs[p]? with
 | none => rw [List.getElem?_eq_none (by rw [progA_len]; exact List.getElem?_eq_none_iff.1 hp), List.getElem?_eq_none (by rw [progA_len]; exact List.getElem?_eq_none_iff.1 hp)]
 | some c => rw [progA_at hp, progA_at hp, progCodeA_same (h p c hp)]
theorem progAr_all {p q : Nat} {l : List Opd} (h : ∀ r, r < l.length → DoneA i k j p q r) : progAr σ i k j p q l = l.map σ := by
 refine List.ext_getElem? fun r => ?_
 cases hr : l[r]? with
 | none => rw [List.getElem?_eq_none (by rw [progAr_len]; exact List.getElem?_eq_none_iff.1 hr), List.getElem?_eq_none (by rw [List.length_map]; exact List.getElem?_eq_none_iff.1 hr)]
 | some t => rw [progAr_at hr, if_pos (h r (List.getElem?_eq_some_iff.1 hr).1), List.getElem?_map, hr]; rfl
theorem progAr_none {p q : Nat} {l : List Opd} (h : ∀ r, r < l.length → ¬ DoneA i k j p q r) : progAr σ i k j p q l = l := by
 refine List.ext_getElem? fun r => ?_
 cases hr : l[r]? with
 | none => rw [List.getElem?_eq_none (by rw [progAr_len]; exact List.getElem?_eq_none_iff.1 hr)]
 | some t => rw [progAr_at hr, if_neg (h r (List.getElem?_eq_some_iff.1 hr).1)]
theorem progA_start : progA σ 0 0 0 bs = bs := by
 refine List.ext_getElem? fun p => ?_
 cases hp : bs[p]? with
 | none => rw [List.getElem?_eq_none (by rw [progA_len]; exact List.getElem?_eq_none_iff.1 hp)]
 | some c =>
  rw [progA_at hp]
  congr 1
  refine List.ext_getElem? fun q => ?_
  cases hq : c[q]? with
  | none => rw [List.getElem?_eq_none (by rw [progCodeA_len]; exact List.getElem?_eq_none_iff.1 hq)]
  | some x =>
   rw [progCodeA_at hq]
   unfold progInsA
   rw [progAr_none (fun r _ h => by unfold DoneA at h; omega)]
   rfl
theorem progA_end : progA σ bs.length 0 0 bs = subAll σ bs := by
 refine List.ext_getElem? fun p => ?_
 unfold subAll
 rw [List.getElem?_map]
 cases hp : bs[p]? with
 | none => rw [List.getElem?_eq_none (by rw [progA_len]; exact List.getElem?_eq_none_iff.1 hp)]; rfl
 | some c =>
  have hpl := (List.getElem?_eq_some_iff.1 hp).1
  rw [progA_at hp]
  show some _ = some _
  congr 1
  refine List.ext_getElem? fun q => ?_
  rw [List.getElem?_map]
  cases hq : c[q]? with
  | none => rw [List.getElem?_eq_none (by rw [progCodeA_len]; exact List.getElem?_eq_none_iff.1 hq)]; rfl
  | some x =>
   rw [progCodeA_at hq]
   unfold progInsA
   rw [progAr_all (fun r _ => by unfold DoneA; omega)]
   rfl
theorem progA_step {c : List Ins} {x : Ins} {t : Opd} (hp : bs[i]? = some c) (hq : c[k]? = some x) (hr : x.args[j]? = some t) :
  (progA σ i k j bs).set i ((progCodeA σ i k j i c).set k (setArgs (progInsA σ i k j i k x) ((progInsA σ i k j i k x).args.set j (σ t)))) = progA σ i k (j + 1) bs := by
 refine List.ext_getElem? fun p => ?_
 by_cases h1 : i = p
 ·subst h1
  rw [List.getElem?_set_self (by rw [progA_len]; exact (List.getElem?_eq_some_iff.1 hp).1), progA_at hp]
  congr 1
  refine List.ext_getElem? fun q => ?_
  by_cases h2 : k = q
  ·subst h2
   rw [List.getElem?_set_self (by rw [progCodeA_len]; exact (List.getElem?_eq_some_iff.1 hq).1), progCodeA_at hq]
   congr 1
   show setArgs x ((progAr σ i k j i k x.args).set j (σ t)) = setArgs x (progAr σ i k (j + 1) i k x.args)
   congr 1
   refine List.ext_getElem? fun r => ?_
   by_cases h3 : j = r
   ·subst h3
    rw [List.getElem?_set_self (by rw [progAr_len]; exact (List.getElem?_eq_some_iff.1 hr).1), progAr_at hr, if_pos (by unfold DoneA; omega)]
   ·rw [List.getElem?_set_ne h3]
    cases hr' : x.args[r]? with
    | none => rw [List.getElem?_eq_none (by rw [progAr_len]; exact List.getElem?_eq_none_iff.1 hr'), List.getElem?_eq_none (by rw [progAr_len]; exact List.getElem?_eq_none_iff.1 hr')]
    | some t' =>
     rw [progAr_at hr', progAr_at hr']
     have : DoneA i k j i k r ↔ DoneA i k (j + 1) i k r := by unfold DoneA; omega
     by_cases hd : DoneA i k j i k r
     ·rw [if_pos hd, if_pos (this.1 hd)]
     ·rw [if_neg hd, if_neg fun h' => hd (this.2 h')]
  ·rw [List.getElem?_set_ne h2]
   cases hq' : c[q]? with
   | none => rw [List.getElem?_eq_none (by rw [progCodeA_len]; exact List.getElem?_eq_none_iff.1 hq'), List.getElem?_eq_none (by rw [progCodeA_len]; exact List.getElem?_eq_none_iff.1 hq')]
   | some x' =>
    rw [progCodeA_at hq', progCodeA_at hq']
    unfold progInsA
    rw [progAr_same (i' := i) (k' := k) (j' := j + 1) (fun r _ => by unfold DoneA; omega)]
 ·rw [List.getElem?_set_ne h1]
  cases hp' : bs[p]? with
  | none => rw [List.getElem?_eq_none (by rw [progA_len]; exact List.getElem?_eq_none_iff.1 hp'), List.getElem?_eq_none (by rw [progA_len]; exact List.getElem?_eq_none_iff.1 hp')]
  | some c' => rw [progA_at hp', progA_at hp', progCodeA_same (i' := i) (k' := k) (j' := j + 1) (fun q x _ r _ => by unfold DoneA; omega)]
theorem progA_next_ins {c : List Ins} {x : Ins} (hp : bs[i]? = some c) (hq : c[k]? = some x) : progA σ i k x.args.length bs = progA σ i (k + 1) 0 bs :=
 progA_same fun p c' hp' q x' hq' r hr => by
  by_cases h1 : p = i
  ·subst h1
   rw [hp] at hp'
   cases hp'
   by_cases h2 : q = k
   ·subst h2
    rw [hq] at hq'
    cases hq'
    unfold DoneA; omega
   ·unfold DoneA; omega
  ·unfold DoneA; omega
theorem progA_next_block {c : List Ins} (hp : bs[i]? = some c) : progA σ i c.length 0 bs = progA σ (i + 1) 0 0 bs :=
 progA_same fun p c' hp' q x' hq' r hr => by
  by_cases h1 : p = i
  ·subst h1
   rw [hp] at hp'
   cases hp'
   have := (List.getElem?_eq_some_iff.1 hq').1
   unfold DoneA; omega
  ·unfold DoneA; omega
end
theorem cellsOf_setA {l : List Ins} {es : List (Value × Value)} {k : Nat} {x x' : Ins} (hx : l[k]? = some x) (h : ∀ c d, insC x' c d = insC x c d) : cellsOf (l.set k x') es = cellsOf l es := by
 unfold cellsOf
 congr 1
 refine List.ext_getElem? fun q => ?_
 rw [List.getElem?_zipWith, List.getElem?_zipWith]
 by_cases hq : k = q
 ·subst hq
  rw [List.getElem?_set_self (List.getElem?_eq_some_iff.1 hx).1, hx]
  cases es[k]? with
  | none => rfl
  | some e => simp only [h]
 ·rw [List.getElem?_set_ne hq]
theorem nd_flatA {ess : List (List (Value × Value))} (h : Nd (ess.flatten.map Prod.fst)) {p q : Nat} {es es' : List (Value × Value)} (hp : ess[p]? = some es) (hq : ess[q]? = some es') (hpq : p ≠ q) {e e' : Value × Value} (he : e ∈ es) (he' : e' ∈ es') {k : Nat} (hk : e.1.ownBlock = some k) : e'.1.ownBlock ≠ some k := by
 intro hk'
 have key : ∀ (p q : Nat) (es es' : List (Value × Value)) (e e' : Value × Value), p < q → ess[p]? = some es → ess[q]? = some es' → e ∈ es → e' ∈ es' → e.1.ownBlock = some k → e'.1.ownBlock = some k → False := by
  intro p q es es' e e' hpq hp hq he he' hk hk'
  have h1 : ess = ess.take q ++ ess.drop q := (List.take_append_drop q ess).symm
  unfold Nd at h
  rw [h1, List.flatten_append, List.map_append, List.filterMap_append, List.nodup_append] at h
  refine h.2.2 k (mem_own.2 ⟨e.1, List.mem_map.2 ⟨e, List.mem_flatten.2 ⟨es, ?_, he⟩, rfl⟩, hk⟩) k (mem_own.2 ⟨e'.1, List.mem_map.2 ⟨e', List.mem_flatten.2 ⟨es', ?_, he'⟩, rfl⟩, hk'⟩) rfl
  ·exact List.mem_of_getElem? (i := p) (by rw [List.getElem?_take, if_pos hpq]; exact hp)
  ·exact List.mem_of_getElem? (i := 0) (by rw [List.getElem?_drop, Nat.add_zero]; exact hq)
 rcases Nat.lt_or_ge p q with h1 | h1
 ·exact key p q es es' e e' h1 hp hq he he' hk hk'
 ·exact key q p es' es e' e (by omega) hq hp he' he hk' hk
theorem flat_set3 {l : List Opd} {j : Nat} {z : Opd} (hj : j < l.length) : (((l.flatMap oc).set (j * 3) (.int .i64 z.kind)).set (j * 3 + 1) (.int .i64 z.num)).set (j * 3 + 2) (.int .u64 z.bits) = (l.set j z).flatMap oc := by
 have hl := oc_len l
 refine List.ext_getElem? fun m => ?_
 rw [oc_get (l.set j z)]
 by_cases h2 : j * 3 + 2 = m
 ·subst h2
  rw [List.getElem?_set_self (by rw [List.length_set, List.length_set, hl]; omega), show (j * 3 + 2) / 3 = j by omega, show (j * 3 + 2) % 3 = 2 by omega, List.getElem?_set_self hj]; rfl
 ·rw [List.getElem?_set_ne h2]
  by_cases h1 : j * 3 + 1 = m
  ·subst h1
   rw [List.getElem?_set_self (by rw [List.length_set, hl]; omega), show (j * 3 + 1) / 3 = j by omega, show (j * 3 + 1) % 3 = 1 by omega, List.getElem?_set_self hj]; rfl
  ·rw [List.getElem?_set_ne h1]
   by_cases h0 : j * 3 = m
   ·subst h0
    rw [List.getElem?_set_self (by omega), show j * 3 / 3 = j by omega, show j * 3 % 3 = 0 by omega, List.getElem?_set_self hj]; rfl
   ·rw [List.getElem?_set_ne h0, oc_get l, List.getElem?_set_ne (by omega)]
def put3 (w : World) (g o : Nat) (z : Opd) : World := ((w.setCell ⟨g, o, none⟩ (.int .i64 z.kind)).setCell ⟨g, o + 1, none⟩ (.int .i64 z.num)).setCell ⟨g, o + 2, none⟩ (.int .u64 z.bits)
theorem put3_far {w : World} {g o : Nat} {z : Opd} {k : Nat} (h : k ≠ g) : (put3 w g o z).heap[k]? = w.heap[k]? := by
 unfold put3
 rw [Below.heap_setCell _ _ _ _ h, Below.heap_setCell _ _ _ _ h, Below.heap_setCell _ _ _ _ h]
theorem OwnV.put {w : World} {B g n cap j : Nat} {l : List Opd} {z : Opd} (h : OwnV w B (.slice (some ⟨g, 0, none⟩) n cap) l) (hj : j < l.length) (hz : I64 z.kind ∧ I64 z.num) : OwnV (put3 w g (j * 3) z) B (.slice (some ⟨g, 0, none⟩) n cap) (l.set j z) := by
 have hn : n = l.length := by
  obtain ⟨A, C, e⟩ := row_form h.row
  cases e; rfl
 subst hn
 have h3 := (World.ownsRow.stored (World.ownsRow.stored (World.ownsRow.stored h.row (j * 3) (.int .i64 z.kind)).1 (j * 3 + 1) (.int .i64 z.num)).1 (j * 3 + 2) (.int .u64 z.bits)).1
 rw [flat_set3 hj] at h3
 refine ⟨by rw [List.length_set]; exact h3, fun y hy => ?_⟩
 rcases List.mem_or_eq_of_mem_set hy with hy | rfl
 ·exact h.ok y hy
 ·exact hz
theorem OwnKd.put_arg {w : World} {B : Nat} {v : Value} {bs : List (List Ins)} {xs : List Value} {ess : List (List (Value × Value))} (h : OwnKd w B v bs xs ess) {i k j g n cap : Nat} {c : List Ins} {x : Ins} {es : List (Value × Value)} {dv : Value} {z : Opd}
  (hc : bs[i]? = some c) (hes : ess[i]? = some es) (hx : c[k]? = some x) (he : es[k]? = some (.slice (some ⟨g, 0, none⟩) n cap, dv)) (hj : j < x.args.length) (hz : I64 z.kind ∧ I64 z.num) :
  OwnKd (put3 w g (j * 3) z) B v (bs.set i (c.set k (setArgs x (x.args.set j z)))) xs ess := by
 have hil := (List.getElem?_eq_some_iff.1 hc).1
 have hkl := (List.getElem?_eq_some_iff.1 hx).1
 have hxi : xs[i]? = some (xs[i]'(by rw [h.lenx]; exact hil)) := List.getElem?_eq_getElem _
 have hci := h.inn i _ c es hxi hc hes
 obtain ⟨har, -, -⟩ := hci.inn k x _ hx he
 have hput := har.put (j := j) (z := z) hj hz
 have hbut : But 42 w (put3 w g (j * 3) z) := fun k' cc t f hk' ht => put3_far (fun e => by
  subst e
  obtain ⟨-, -, c', h1⟩ := row_lt har.row (k := k') rfl
  rw [hk'] at h1
  injection h1 with h1
  injection h1 with _ h2
  exact ht h2)
 have hfar : ∀ (u : Value) (l : List Opd), OwnV w B u l → (u.ownBlock ≠ some g) → OwnV (put3 w g (j * 3) z) B u l := fun u l hu hg =>
  ⟨row_kept hu.row fun k' hk' => put3_far (fun e => hg (by rw [hk', e])), hu.ok⟩
 refine ⟨by rw [List.length_set]; exact hbut.row (by decide) h.row, by rw [List.length_set]; exact h.lene, fun p y d fs hy hd hf => ?_, h.ndx, h.nda, h.ndt⟩
 by_cases hip : i = p
 ·subst hip
  rw [List.getElem?_set_self hil] at hd
  rw [hes] at hf
  rw [hxi] at hy
  cases hd; cases hf; cases hy
  refine ⟨by rw [List.length_set]; exact hci.len, by rw [cellsOf_setA (x' := setArgs x (x.args.set j z)) hx (fun _ _ => rfl), List.length_set]; exact hbut.row (by decide) hci.row, fun q y e hy he' => ?_, hci.nda, hci.ndt⟩
  by_cases hkq : k = q
  ·subst hkq
   rw [List.getElem?_set_self hkl] at hy
   rw [he] at he'
   cases hy; cases he'
   obtain ⟨ha, ht, hok⟩ := hci.inn k x _ hx he
   exact ⟨hput, ⟨hbut.row (by decide) ht.row, ht.ok⟩, hok⟩
  ·rw [List.getElem?_set_ne hkq] at hy
   obtain ⟨ha, ht, hok⟩ := hci.inn q y e hy he'
   refine ⟨hfar _ _ ha ?_, ⟨hbut.row (by decide) ht.row, ht.ok⟩, hok⟩
   exact nd_ne hci.nda (i := k) (j := q) (by rw [List.getElem?_map, he]; rfl) (by rw [List.getElem?_map, he']; rfl) hkq rfl
 ·rw [List.getElem?_set_ne hip] at hd
  have hcp := h.inn p y d fs hy hd hf
  refine ⟨hcp.len, hbut.row (by decide) hcp.row, fun q u e hu he' => ?_, hcp.nda, hcp.ndt⟩
  obtain ⟨ha, ht, hok⟩ := hcp.inn q u e hu he'
  refine ⟨hfar _ _ ha ?_, ⟨hbut.row (by decide) ht.row, ht.ok⟩, hok⟩
  exact nd_flatA h.nda hes hf hip (List.mem_of_getElem? he) (List.mem_of_getElem? he') rfl
end Go.Proofs.Ytamjcafjdioidaa

namespace Go.Proofs.Ytamjcafjdioidaa
open Go.RowKit
set_option linter.unusedSimpArgs false
set_option linter.unusedVariables false
def rsub (reg : Int) (v : Opd) (a : Opd) : Opd := if a.kind = 1 ∧ a.num = reg then v else a
def ArgB (ess : List (List (Value × Value))) (k : Nat) : Prop := ∃ e, e ∈ ess.flatten ∧ e.1.ownBlock = some k
theorem set_same {α : Type} {l : List α} {j : Nat} {t : α} (h : l[j]? = some t) : l.set j t = l := by
 refine List.ext_getElem? fun r => ?_
 by_cases e : j = r
 ·subst e; rw [List.getElem?_set_self (List.getElem?_eq_some_iff.1 h).1, h]
 ·rw [List.getElem?_set_ne e]
theorem progA_id {σ : Opd → Opd} {i k j : Nat} {bs : List (List Ins)} {c : List Ins} {x : Ins} {t : Opd} (hp : bs[i]? = some c) (hq : c[k]? = some x) (hr : x.args[j]? = some t) (ht : σ t = t) : progA σ i k (j + 1) bs = progA σ i k j bs := by
 have hv : (progInsA σ i k j i k x).args[j]? = some t := by
  show (progAr σ i k j i k x.args)[j]? = _
  rw [progAr_at hr, if_neg (by unfold DoneA; omega)]
 rw [← progA_step hp hq hr, ht, set_same hv, show setArgs (progInsA σ i k j i k x) (progInsA σ i k j i k x).args = progInsA σ i k j i k x from rfl, set_same (progCodeA_at hq), set_same (progA_at hp)]
def ReplPost (σ : Opd → Opd) (i k L : Nat) (d : Value) (bs : List (List Ins)) (xs : List Value) (ess : List (List (Value × Value))) (w : World) (e : Ending) (w' : World) : Prop :=
 e = .returned (.bool true) ∧ OwnKd w' L d (progA σ i (k + 1) 0 bs) xs ess ∧ Only (ArgB ess) w.heap.size w w'
set_option maxRecDepth 100000 in
set_option maxHeartbeats 6400000 in
theorem repl_any (reg : Int) (v : Opd) (hv64 : I64 v.kind ∧ I64 v.num) (i k L NR NV gc nc Cc : Nat) (d : Value) (bs : List (List Ins)) (xs : List Value) (ess : List (List (Value × Value))) (c : List Ins) (x : Ins) (es : List (Value × Value)) (w : World)
  (hK : OwnKd w L d (progA (rsub reg v) i k 0 bs) xs ess) (hc : bs[i]? = some c) (hx : c[k]? = some x) (hes : ess[i]? = some es) (hxi : xs[i]? = some (.slice (some ⟨gc, 0, none⟩) nc Cc)) (hxa : x.args.length ≤ 2000000)
  (hNR : NR < L) (hNV : NV < L) (hNRw : NR < w.heap.size) (hNVw : NV < w.heap.size) (hR : w.cell? ⟨NR, 0, none⟩ = some (.int .i64 reg)) (hV0 : w.cell? ⟨NV, 0, none⟩ = some (.int .i64 v.kind)) (hV1 : w.cell? ⟨NV, 1, none⟩ = some (.int .i64 v.num)) (hV2 : w.cell? ⟨NV, 2, none⟩ = some (.int .u64 v.bits)) :
  Calls Try.prog 86 #[.agg #[.int .i64 0, .int .i64 i, .int .i64 k], .pointer (some ⟨gc, k * 7, none⟩), .pointer (some ⟨NR, 0, none⟩), .pointer (some ⟨NV, 0, none⟩)] w (ReplPost (rsub reg v) i k L d bs xs ess w) := by
 have hCd := hK.inn i _ _ es hxi (progA_at hc) hes
 have hkl : k < es.length := by rw [hCd.len, progCodeA_len]; exact (List.getElem?_eq_some_iff.1 hx).1
 obtain ⟨⟨cv, dv⟩, he⟩ := get_ex hkl
 obtain ⟨har, -, -⟩ := hCd.inn k _ _ (progCodeA_at hx) he.out
 obtain ⟨Aa, Ca, hcv⟩ := row_form har.row
 obtain ⟨na, hna⟩ : ∃ na, Hid (na = x.args.length) := ⟨_, hide rfl⟩
 have hcv' : cv = .slice Aa na Ca := by
  have e : (progInsA (rsub reg v) i k 0 i k x).args.length = x.args.length := progAr_len
  rw [e, ← hna.out] at hcv
  exact hcv
 subst hcv'
 have hSL : ∀ q, ArgB ess q → L ≤ q ∧ q < w.heap.size := fun q ⟨e, he, hq⟩ => (hK.own_at he q).1 hq
 have hgc := row_lt hCd.row (k := gc) rfl
 have hSg : ¬ ArgB ess gc := fun ⟨e, hef, hq⟩ => by
  obtain ⟨fs, hfs, hef⟩ := List.mem_flatten.1 hef
  obtain ⟨p, hp⟩ := List.getElem?_of_mem hfs
  have hpl := (List.getElem?_eq_some_iff.1 hp).1
  obtain ⟨q, hq'⟩ := List.getElem?_of_mem hef
  have hxp : xs[p]? = some (xs[p]'(by rw [hK.lenx, ← hK.lene]; exact hpl)) := List.getElem?_eq_getElem _
  obtain ⟨b', es', hb', hes', hcd⟩ := hK.code_at hxp
  rw [hp] at hes'
  cases hes'
  have hql := (List.getElem?_eq_some_iff.1 hq').1
  rw [hcd.len] at hql
  obtain ⟨h1, -, -⟩ := hcd.inn q _ e (List.getElem?_eq_getElem hql) hq'
  obtain ⟨-, -, c1, h2⟩ := row_lt h1.row hq
  obtain ⟨-, -, c2, h3⟩ := hgc
  rw [h2] at h3
  injection h3 with h3
  injection h3 with _ h4
  exact absurd h4 (by decide)
 have hrow1 := hCd.row
 have r5 : w.cell? ⟨gc, k * 7 + 5, none⟩ = some (.slice Aa na Ca) := by
  have hkc := (List.getElem?_eq_some_iff.1 hx).1
  have hl : (progCodeA (rsub reg v) i k 0 i c).length = nc := by
   obtain ⟨A, C, e⟩ := row_form hCd.row
   cases e; rfl
  rw [hl] at hrow1
  have hl2 : c.length = nc := by rw [← hl]; exact progCodeA_len.symm
  rw [World.ownsRow.cellAt hrow1 (k * 7 + 5) (by omega)]
  exact cellsOf_at (progCodeA_at hx) he.out rfl
 obtain ⟨W, hW, hwW, hWs, -⟩ := boxes1 w #[.int .i64 0, .int .i64 i, .int .i64 k] 56
 have hon0 : Only (ArgB ess) w.heap.size w W := Only.of_below hwW
 have up : ∀ w', Only (ArgB ess) W.heap.size W w' → Only (ArgB ess) w.heap.size w w' := fun w' h => hon0.trans (h.mono hwW.size)
 have z5 : ∀ w', Only (ArgB ess) W.heap.size W w' → w'.cell? ⟨gc, k * 7 + 5, none⟩ = some (.slice Aa na Ca) := fun w' h => ((up w' h).cell (p := ⟨gc, k * 7 + 5, none⟩) hgc.2.1 hSg).trans r5
 have zR : ∀ w', Only (ArgB ess) W.heap.size W w' → w'.cell? ⟨NR, 0, none⟩ = some (.int .i64 reg) := fun w' h => ((up w' h).cell (p := ⟨NR, 0, none⟩) (by show NR < _; omega) (fun e => by have : L ≤ NR := (hSL _ e).1; omega)).trans hR
 have zV0 : ∀ w', Only (ArgB ess) W.heap.size W w' → w'.cell? ⟨NV, 0, none⟩ = some (.int .i64 v.kind) := fun w' h => ((up w' h).cell (p := ⟨NV, 0, none⟩) (by show NV < _; omega) (fun e => by have : L ≤ NV := (hSL _ e).1; omega)).trans hV0
 have zV1 : ∀ w', Only (ArgB ess) W.heap.size W w' → w'.cell? ⟨NV, 1, none⟩ = some (.int .i64 v.num) := fun w' h => ((up w' h).cell (p := ⟨NV, 1, none⟩) (by show NV < _; omega) (fun e => by have : L ≤ NV := (hSL _ e).1; omega)).trans hV1
 have zV2 : ∀ w', Only (ArgB ess) W.heap.size W w' → w'.cell? ⟨NV, 2, none⟩ = some (.int .u64 v.bits) := fun w' h => ((up w' h).cell (p := ⟨NV, 2, none⟩) (by show NV < _; omega) (fun e => by have : L ≤ NV := (hSL _ e).1; omega)).trans hV2
 have hKW := hide (hK.kept (w' := W) fun q _ hq => hwW.block q hq)
 have hself := Only.refl (ArgB ess) W.heap.size W
 have hna8 : na ≤ 2000000 := by rw [hna.out]; exact hxa
 have hwWh := hide hwW
 replace hWs := hide hWs
 replace hSL := hide hSL
 replace hc := hide hc
 replace hx := hide hx
 replace hes := hide hes
 replace hxi := hide hxi
 replace hv64 := hide hv64
 clear hK hCd hkl har hcv hgc hSg hrow1 r5 hon0 up hwW hR hV0 hV1 hV2 hxa
 go_enter Try.func86, Try.ntmps86
 go_wp2
 go_loopw [14] (fun u wr => ∃ j : Nat, u = .int .i64 j ∧ j ≤ na ∧ Hid (OwnKd wr L d (progA (rsub reg v) i k j bs) xs ess) ∧ Only (ArgB ess) W.heap.size W wr) (fun u _ => na - (intOf u).toNat)
 case atStart => exact ⟨0, rfl, Nat.zero_le _, hKW, hself⟩
 case round =>
  clear hKW hself
  obtain ⟨j, rfl, hj, hK, hon⟩ := hrel
  by_cases hlt : j < na
  ·obtain ⟨t, ht⟩ := get_ex (l := x.args) (k := j) (by rw [← hna.out]; exact hlt)
   have hji : (j : Int) < (na : Int) := by omega
   have hCd := hK.out.inn i _ _ es hxi.out (progA_at hc.out) hes.out
   obtain ⟨har, -, -⟩ := hCd.inn k _ _ (progCodeA_at hx.out) he.out
   have hal : (progInsA (rsub reg v) i k j i k x).args.length = x.args.length := progAr_len
   obtain ⟨gA, CA, hAa, -, -⟩ := har.row.form (by rw [hal, ← hna.out]; omega)
   have hAa' : Aa = some ⟨gA, 0, none⟩ := by cases hAa; rfl
   subst hAa'
   clear hAa CA
   have htv : (progInsA (rsub reg v) i k j i k x).args[j]? = some t := by
    show (progAr (rsub reg v) i k j i k x.args)[j]? = _
    rw [progAr_at ht.out, if_neg (by unfold DoneA; omega)]
   have hrow := har.row
   rw [hal, ← hna.out] at hrow
   have hcell : ∀ (r : Nat) u, (oc t)[r]? = some u → r < 3 → wr.cell? ⟨gA, j * 3 + r, none⟩ = some u := fun r u hu hr => by
    rw [World.ownsRow.cellAt hrow (j * 3 + r) (by omega), oc_get, show (j * 3 + r) / 3 = j by omega, show (j * 3 + r) % 3 = r by omega, htv]
    exact hu
   have r0 : wr.cell? ⟨gA, j * 3, none⟩ = some (.int .i64 t.kind) := hcell 0 _ rfl (by omega)
   have r1 : wr.cell? ⟨gA, j * 3 + 1, none⟩ = some (.int .i64 t.num) := hcell 1 _ rfl (by omega)
   have r2 : wr.cell? ⟨gA, j * 3 + 2, none⟩ = some (.int .u64 t.bits) := hcell 2 _ rfl (by omega)
   have f0 : wr.frozen? ⟨gA, j * 3, none⟩ = false := World.ownsRow.frozenAt hrow _
   have f1 : wr.frozen? ⟨gA, j * 3 + 1, none⟩ = false := World.ownsRow.frozenAt hrow _
   have f2 : wr.frozen? ⟨gA, j * 3 + 2, none⟩ = false := World.ownsRow.frozenAt hrow _
   have hbs := hon.size
   go_upto_region 4 with (fail)
   obtain ⟨X, hX, hwX, hXs, hxc⟩ := boxes1 wr #[.int .i64 t.kind, .int .i64 t.num, .int .u64 t.bits] 42
   rw [hX]
   have x0 := hxc 0 _ rfl X (Below.refl _ _)
   have x1 := hxc 1 _ rfl X (Below.refl _ _)
   have x2 := hxc 2 _ rfl X (Below.refl _ _)
   have honX : Only (ArgB ess) W.heap.size W X := hon.then_below (Nat.le_refl _) hwX
   have hKX := hK.out.kept (w' := X) fun q _ hq => hwX.block q hq
   have hgA := (row_lt hrow (k := gA) rfl).2.1
   have s0 : X.cell? ⟨gA, j * 3, none⟩ = some (.int .i64 t.kind) := (hwX.cell (p := ⟨gA, j * 3, none⟩) hgA).trans r0
   have s1 : X.cell? ⟨gA, j * 3 + 1, none⟩ = some (.int .i64 t.num) := (hwX.cell (p := ⟨gA, j * 3 + 1, none⟩) hgA).trans r1
   have s2 : X.cell? ⟨gA, j * 3 + 2, none⟩ = some (.int .u64 t.bits) := (hwX.cell (p := ⟨gA, j * 3 + 2, none⟩) hgA).trans r2
   have g0 : X.frozen? ⟨gA, j * 3, none⟩ = false := (World.frozen?_of_block (a := ⟨gA, j * 3, none⟩) (hwX.block gA hgA)).trans f0
   have g1 : X.frozen? ⟨gA, j * 3 + 1, none⟩ = false := (World.frozen?_of_block (a := ⟨gA, j * 3 + 1, none⟩) (hwX.block gA hgA)).trans f1
   have g2 : X.frozen? ⟨gA, j * 3 + 2, none⟩ = false := (World.frozen?_of_block (a := ⟨gA, j * 3 + 2, none⟩) (hwX.block gA hgA)).trans f2
   have hS : ArgB ess gA := ⟨(.slice (some ⟨gA, 0, none⟩) na Ca, dv), List.mem_flatten.2 ⟨es, List.mem_of_getElem? hes.out, List.mem_of_getElem? he.out⟩, rfl⟩
   have hput := hKX.put_arg (j := j) (z := v) (progA_at hc.out) hes.out (progCodeA_at hx.out) he.out (by rw [hal, ← hna.out]; exact hlt) hv64.out
   have hon9 : Only (ArgB ess) W.heap.size W (put3 X gA (j * 3) v) := ((honX.setCell (p := ⟨gA, j * 3, none⟩) (.inl hS) _).setCell (p := ⟨gA, j * 3 + 1, none⟩) (.inl hS) _).setCell (p := ⟨gA, j * 3 + 2, none⟩) (.inl hS) _
   replace hput := hide hput
   replace hon9 := hide hon9
   replace hKX := hide hKX
   replace hrow := hide hrow
   replace hwX := hide hwX
   replace hXs := hide hXs
   replace hS := hide hS
   replace hgA := hide hgA
   clear hX hxc hCd har hcell r0 r1 r2 f0 f1 f2 hK hon hbs
   by_cases hcase : t.kind = 1 ∧ t.num = reg
   ·have e1 : (t.kind == 1) = true := by rw [beq_iff_eq]; exact hcase.1
    have e2 : (t.num == reg) = true := by rw [beq_iff_eq]; exact hcase.2
    have hst : Hid (rsub reg v t = v) := hide (by unfold rsub; rw [if_pos hcase])
    have hnext := hput.out
    have hstep := progA_step (σ := rsub reg v) hc.out hx.out ht.out
    rw [hst.out] at hstep
    rw [hstep] at hnext
    clear hstep
    replace hnext := hide hnext
    clear hput
    replace hcase := hide hcase
    go_upto_region 5 with (fail)
    go_region
    go_wp2
    go_roundw
    case rel => exact ⟨j + 1, by go_num, hlt, hide (hnext.out.kept fun _ _ _ => rfl), hon9.out.drew⟩
    case measure => simp [intOf]; omega
   ·have hst : Hid (rsub reg v t = t) := hide (by unfold rsub; rw [if_neg hcase])
    have hnext := hKX.out
    rw [← progA_id hc.out hx.out ht.out hst.out] at hnext
    replace hnext := hide hnext
    clear hput hon9
    by_cases hk1 : t.kind = 1
    ·have e1 : (t.kind == 1) = true := by rw [beq_iff_eq]; exact hk1
     have e2 : (t.num == reg) = false := by rw [beq_eq_false_iff_ne]; exact fun h => hcase ⟨hk1, h⟩
     clear hcase hk1
     go_wp2
     go_roundw
     case rel => exact ⟨j + 1, by go_num, hlt, hnext, honX⟩
     case measure => simp [intOf]; omega
    ·have e1 : (t.kind == 1) = false := by rw [beq_eq_false_iff_ne]; exact hk1
     clear hcase hk1
     go_wp2
     go_roundw
     case rel => exact ⟨j + 1, by go_num, hlt, hnext, honX⟩
     case measure => simp [intOf]; omega
  ·obtain rfl : j = na := by omega
   have hnext := hK.out
   rw [hna.out, progA_next_ins hc.out hx.out] at hnext
   replace hnext := hide hnext
   go_wp2
   go_ret
   exact ⟨rfl, hnext.out, (Only.of_below hwWh.out).trans (hon.mono hwWh.out.size)⟩
end Go.Proofs.Ytamjcafjdioidaa
