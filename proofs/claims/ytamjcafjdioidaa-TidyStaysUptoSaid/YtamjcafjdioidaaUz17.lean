/- Texts of the chain, without what is not wanted: TdQ. No condition but sizes. -/
import Derived.WalkKit
import Derived.Deep.Slices
import Derived.Deep.Draws
import Derived.ChangeSame
import Derived.ChangeOld
import Derived.OwnWalk
import Derived.Laws.OwnMore
import Derived.Deep.AppendLies
import Derived.Test.YtamjcafjdioidaaRows
import Derived.ProofKit
import Derived.OpenShut
import Derived.JoinedCond
import Derived.WalkSpells
import Derived.WalkLawsBesides
import Derived.Deep.RegionHeld3
import Derived.Deep.LoopGhost
import Derived.Deep.QuietTactic
import Derived.BigQuiet
import Derived.Deep.DeepCutAuto
import Derived.Deep.CutBlock
import Derived.StillTailTactics
import Derived.Deep.RegionLaw
import Derived.Lib.SliceRun
import Derived.Laws.IdiomCopy
import Derived.Test.YtamjcafjdioidaaUz01
import Derived.Test.YtamjcafjdioidaaUz02
import Derived.Test.YtamjcafjdioidaaUz03
import Derived.Test.YtamjcafjdioidaaUz04
import Derived.Test.YtamjcafjdioidaaUz05
import Derived.Test.YtamjcafjdioidaaUz06
import Derived.Test.YtamjcafjdioidaaUz07
import Derived.Test.YtamjcafjdioidaaUz08
import Derived.Test.YtamjcafjdioidaaUz09
import Derived.Test.YtamjcafjdioidaaUz13
import Derived.Test.YtamjcafjdioidaaUz14
import Derived.Test.YtamjcafjdioidaaUz15
import Derived.Test.YtamjcafjdioidaaUz16
namespace Go.Proofs.Ytamjcafjdioidaa
open Go.RowKit
set_option linter.unusedVariables false
set_option linter.unusedSimpArgs false
def leftN (gone : List Bool) (t : Nat) : Nat := ((gone.take t).filter fun g => !g).length
def renT (gone : List Bool) (t : Int) : Int := leftN gone t.toNat
def renI (gone : List Bool) (x : Ins) : Ins := setTo x (x.to.map (renT gone))
def keptN (gone : List Bool) (n : Nat) : List Nat := (List.range n).filter fun b => !(gone.getD b false)
def withoutS (gone : List Bool) (bs : List (List Ins)) : List (List Ins) := (keptN gone bs.length).map fun b => (bs.getD b []).map (renI gone)
theorem leftN_next {gone : List Bool} {b : Nat} {g : Bool} (h : gone[b]? = some g) : leftN gone (b + 1) = leftN gone b + if g then 0 else 1 := by
 unfold leftN
 rw [List.take_add_one, h]
 cases g <;> simp [List.filter_append]
theorem leftN_le (gone : List Bool) (b : Nat) : leftN gone b ≤ b := by
 unfold leftN
 have h1 := List.length_filter_le (fun g => !g) (gone.take b)
 rw [List.length_take] at h1
 omega
theorem keptN_next {gone : List Bool} {b : Nat} {g : Bool} (h : gone[b]? = some g) : keptN gone (b + 1) = keptN gone b ++ if g then [] else [b] := by
 unfold keptN
 rw [List.range_succ, List.filter_append]
 congr 1
 rw [List.filter_cons, List.getD_eq_getElem?_getD, h]
 cases g <;> rfl
theorem keptN_len {gone : List Bool} : ∀ {b : Nat}, b ≤ gone.length → (keptN gone b).length = leftN gone b
 | 0, _ => by simp [keptN, leftN]
 | b + 1, h => by
  have h1 : gone[b]? = some (gone[b]'(by omega)) := List.getElem?_eq_getElem _
  rw [keptN_next h1, leftN_next h1, List.length_append, keptN_len (by omega)]
  cases gone[b]'(by omega) <;> rfl
def atL (gone : List Bool) (n i : Nat) : List Int := (List.range i).map (fun b => (leftN gone b : Int)) ++ List.replicate (n - i) 0
theorem atL_zero (gone : List Bool) (n : Nat) : atL gone n 0 = List.replicate n 0 := by simp [atL]
theorem atL_next {gone : List Bool} {n i : Nat} (h : i < n) : (atL gone n i).set i (leftN gone i : Int) = atL gone n (i + 1) := by
 unfold atL
 have h1 : ((List.range i).map fun b => (leftN gone b : Int)).length = i := by simp
 rw [List.set_append_right _ _ (by omega), h1, Nat.sub_self, show n - i = n - (i + 1) + 1 by omega, List.replicate_succ, List.set_cons_zero, List.range_succ, List.map_append]
 simp
theorem atL_end {gone : List Bool} {n t : Nat} (h : t < n) : (atL gone n n)[t]? = some (leftN gone t : Int) := by
 unfold atL
 rw [Nat.sub_self, List.replicate_zero, List.append_nil, List.getElem?_map, List.getElem?_range h]
 rfl
def renX (gone : List Bool) (x : Ins) (k : Nat) : Ins := setTo x ((x.to.take k).map (renT gone) ++ x.to.drop k)
theorem renX_zero (gone : List Bool) (x : Ins) : renX gone x 0 = x := by simp [renX, setTo]
theorem renX_end (gone : List Bool) (x : Ins) : renX gone x x.to.length = renI gone x := by simp [renX, renI]
theorem renX_to (gone : List Bool) (x : Ins) (k : Nat) : (renX gone x k).to.length = x.to.length := by
 show ((x.to.take k).map (renT gone) ++ x.to.drop k).length = _
 simp; omega
theorem renX_at {gone : List Bool} {x : Ins} {k : Nat} {t : Int} (h : x.to[k]? = some t) : (renX gone x k).to[k]? = some t := by
 have h1 := (List.getElem?_eq_some_iff.1 h).1
 show ((x.to.take k).map (renT gone) ++ x.to.drop k)[k]? = _
 rw [List.getElem?_append_right (by simp; omega), List.length_map, List.length_take, Nat.min_eq_left (by omega), Nat.sub_self, List.getElem?_drop]
 exact h
theorem renX_next {gone : List Bool} {x : Ins} {k : Nat} {t : Int} (h : x.to[k]? = some t) : setTo (renX gone x k) ((renX gone x k).to.set k (renT gone t)) = renX gone x (k + 1) := by
 have h1 := (List.getElem?_eq_some_iff.1 h).1
 have h2 : x.to.drop k = t :: x.to.drop (k + 1) := by
  rw [List.getElem?_eq_getElem h1] at h
  injection h with h
  rw [← h, List.getElem_cons_drop]
 have h3 : ((x.to.take k).map (renT gone)).length = k := by simp; omega
 unfold renX
 show setTo (setTo x _) (((x.to.take k).map (renT gone) ++ x.to.drop k).set k (renT gone t)) = _
 rw [h2, List.set_append_right _ _ (by omega), h3, Nat.sub_self, List.set_cons_zero, List.take_add_one, h]
 simp [setTo]
def renL (gone : List Bool) (l : List Ins) (i : Nat) : List Ins := (l.take i).map (renI gone) ++ l.drop i
theorem renL_zero (gone : List Bool) (l : List Ins) : renL gone l 0 = l := by simp [renL]
theorem renL_end (gone : List Bool) (l : List Ins) : renL gone l l.length = l.map (renI gone) := by simp [renL]
theorem renL_len (gone : List Bool) (l : List Ins) (i : Nat) : (renL gone l i).length = l.length := by unfold renL; simp; omega
theorem renL_at {gone : List Bool} {l : List Ins} {i : Nat} {x : Ins} (h : l[i]? = some x) : (renL gone l i)[i]? = some x := by
 have h1 := (List.getElem?_eq_some_iff.1 h).1
 unfold renL
 rw [List.getElem?_append_right (by simp; omega), List.length_map, List.length_take, Nat.min_eq_left (by omega), Nat.sub_self, List.getElem?_drop]
 exact h
theorem renL_next {gone : List Bool} {l : List Ins} {i : Nat} {x : Ins} (h : l[i]? = some x) : (renL gone l i).set i (renI gone x) = renL gone l (i + 1) := by
 have h1 := (List.getElem?_eq_some_iff.1 h).1
 have h2 : l.drop i = x :: l.drop (i + 1) := by
  rw [List.getElem?_eq_getElem h1] at h
  injection h with h
  rw [← h, List.getElem_cons_drop]
 have h3 : ((l.take i).map (renI gone)).length = i := by simp; omega
 unfold renL
 rw [h2, List.set_append_right _ _ (by omega), h3, Nat.sub_self, List.set_cons_zero, List.take_add_one, h]
 simp
def renB (gone : List Bool) (bs : List (List Ins)) (b : Nat) : List (List Ins) := bs.mapIdx fun j l => if j < b ∧ gone.getD j false = false then l.map (renI gone) else l
theorem renB_zero (gone : List Bool) (bs : List (List Ins)) : renB gone bs 0 = bs := by
 unfold renB
 apply List.ext_getElem?
 intro j
 rw [List.getElem?_mapIdx]
 cases bs[j]? <;> simp
theorem renB_len (gone : List Bool) (bs : List (List Ins)) (b : Nat) : (renB gone bs b).length = bs.length := by simp [renB]
theorem renB_at {gone : List Bool} {bs : List (List Ins)} {b j : Nat} {l : List Ins} (h : bs[j]? = some l) (hj : b ≤ j) : (renB gone bs b)[j]? = some l := by
 unfold renB
 rw [List.getElem?_mapIdx, h]
 simp
 intro h1
 omega
theorem renB_next {gone : List Bool} {bs : List (List Ins)} {b : Nat} {l : List Ins} (h : bs[b]? = some l) (hg : gone[b]? = some false) : (renB gone bs b).set b (l.map (renI gone)) = renB gone bs (b + 1) := by
 have hg' : gone.getD b false = false := by rw [List.getD_eq_getElem?_getD, hg]; rfl
 apply List.ext_getElem?
 intro j
 by_cases e : b = j
 ·subst e
  rw [List.getElem?_set_self (by rw [renB_len]; exact (List.getElem?_eq_some_iff.1 h).1)]
  unfold renB
  rw [List.getElem?_mapIdx, h]
  simp only [Option.map_some]
  rw [if_pos ⟨Nat.lt_succ_self b, hg'⟩]
 ·rw [List.getElem?_set_ne e]
  unfold renB
  rw [List.getElem?_mapIdx, List.getElem?_mapIdx]
  have : (j < b ∧ gone.getD j false = false) ↔ (j < b + 1 ∧ gone.getD j false = false) := by
   constructor
   ·rintro ⟨h1, h2⟩; exact ⟨by omega, h2⟩
   ·rintro ⟨h1, h2⟩; exact ⟨by omega, h2⟩
  simp only [this]
theorem renB_gone {gone : List Bool} {bs : List (List Ins)} {b : Nat} (hg : gone[b]? = some true) : renB gone bs b = renB gone bs (b + 1) := by
 have hg' : gone.getD b false = true := by rw [List.getD_eq_getElem?_getD, hg]; rfl
 unfold renB
 congr 1
 funext j l
 have : (j < b ∧ gone.getD j false = false) ↔ (j < b + 1 ∧ gone.getD j false = false) := by
  constructor
  ·rintro ⟨h1, h2⟩; exact ⟨by omega, h2⟩
  ·rintro ⟨h1, h2⟩
   refine ⟨?_, h2⟩
   by_cases e : j = b
   ·subst e; rw [hg'] at h2; cases h2
   ·omega
 simp only [this]
theorem renB_end {gone : List Bool} {bs : List (List Ins)} : (keptN gone bs.length).map (fun b => (renB gone bs bs.length).getD b []) = withoutS gone bs := by
 unfold withoutS
 apply List.map_congr_left
 intro b hb
 obtain ⟨h1, h2⟩ := List.mem_filter.1 hb
 have h3 := List.mem_range.1 h1
 have h4 : gone.getD b false = false := by simpa using h2
 unfold renB
 rw [List.getD_eq_getElem?_getD, List.getElem?_mapIdx, List.getElem?_eq_getElem h3, List.getD_eq_getElem?_getD (l := bs), List.getElem?_eq_getElem h3]
 simp only [Option.map_some, Option.getD_some]
 rw [if_pos ⟨h3, h4⟩]
theorem getD_at {α : Type} {l : List α} {k : Nat} {z : α} (h : k < l.length) : l[k]? = some (l.getD k z) := by
 rw [List.getD_eq_getElem?_getD, List.getElem?_eq_getElem h]; rfl
theorem nd_pick {vs : List Value} (h : Nd vs) {ks : List Nat} (hk : ks.Nodup) (hl : ∀ k, k ∈ ks → k < vs.length) (z : Value) : Nd (ks.map fun k => vs.getD k z) := by
 rw [nd_iff] at h ⊢
 intro i j u v k hi hj hu hv
 rw [List.getElem?_map] at hi hj
 cases hi' : ks[i]? with
 | none => rw [hi'] at hi; cases hi
 | some a =>
  cases hj' : ks[j]? with
  | none => rw [hj'] at hj; cases hj
  | some b =>
   rw [hi'] at hi
   rw [hj'] at hj
   cases hi; cases hj
   have la := hl a (List.mem_of_getElem? hi')
   have lb := hl b (List.mem_of_getElem? hj')
   have ea : vs[a]? = some (vs.getD a z) := by rw [List.getD_eq_getElem?_getD, List.getElem?_eq_getElem la]; rfl
   have eb : vs[b]? = some (vs.getD b z) := by rw [List.getD_eq_getElem?_getD, List.getElem?_eq_getElem lb]; rfl
   have e := h a b _ _ k ea eb hu hv
   subst e
   have h1 := (List.getElem?_eq_some_iff.1 hi').1
   have h2 := (List.getElem?_eq_some_iff.1 hj').1
   rw [List.getElem?_eq_getElem h1] at hi'
   rw [List.getElem?_eq_getElem h2] at hj'
   exact (List.getElem_inj hk).1 ((Option.some.inj hi').trans (Option.some.inj hj').symm)
theorem nd2_pick {α : Type} {f : α → Value} {ess : List (List α)} (h : Nd2 f ess) {ks : List Nat} (hk : ks.Nodup) (hl : ∀ k, k ∈ ks → k < ess.length) : Nd2 f (ks.map fun k => ess.getD k []) := by
 obtain ⟨g1, g2⟩ := h
 have key : ∀ (i : Nat) a, (ks.map fun k => ess.getD k [])[i]? = some a → ∃ k, ks[i]? = some k ∧ ess[k]? = some a := fun i a hi => by
  rw [List.getElem?_map] at hi
  cases hi' : ks[i]? with
  | none => rw [hi'] at hi; cases hi
  | some k =>
   rw [hi'] at hi
   cases hi
   have lk := hl k (List.mem_of_getElem? hi')
   exact ⟨k, rfl, getD_at lk⟩
 refine ⟨fun i a hi => ?_, fun i j a b e e' k hij hi hj hea heb hk1 => ?_⟩
 ·obtain ⟨k, -, h2⟩ := key i a hi
  exact g1 k a h2
 ·obtain ⟨k1, h1, h2⟩ := key i a hi
  obtain ⟨k2, h3, h4⟩ := key j b hj
  refine g2 k1 k2 a b e e' k (fun e9 => hij ?_) h2 h4 hea heb hk1
  subst e9
  have l1 := (List.getElem?_eq_some_iff.1 h1).1
  have l2 := (List.getElem?_eq_some_iff.1 h3).1
  rw [List.getElem?_eq_getElem l1] at h1
  rw [List.getElem?_eq_getElem l2] at h3
  exact (List.getElem_inj hk).1 ((Option.some.inj h1).trans (Option.some.inj h3).symm)
theorem OwnKd.pick {w : World} {d v' : Value} {bs : List (List Ins)} {xs : List Value} {ess : List (List (Value × Value))} (h : OwnKd w 0 d bs xs ess) {ks : List Nat} (hk : ks.Nodup) (hl : ∀ k, k ∈ ks → k < bs.length)
  (hr : w.ownsRow 0 36 1 v' ks.length (ks.map fun k => xs.getD k (.slice none 0 0))) : OwnKd w 0 v' (ks.map fun k => bs.getD k []) (ks.map fun k => xs.getD k (.slice none 0 0)) (ks.map fun k => ess.getD k []) := by
 have hlx := h.lenx
 have hle := h.lene
 refine ⟨by rw [List.length_map]; exact hr, by simp, fun i x b es hx hb he => ?_, nd_pick h.ndx hk (fun k hk' => by rw [hlx]; exact hl k hk') _, nd2_iff.2 (nd2_pick (nd2_iff.1 h.nda) hk fun k hk' => by rw [hle]; exact hl k hk'), nd2_iff.2 (nd2_pick (nd2_iff.1 h.ndt) hk fun k hk' => by rw [hle]; exact hl k hk')⟩
 rw [List.getElem?_map] at hx hb he
 cases hi : ks[i]? with
 | none => rw [hi] at hx; cases hx
 | some k =>
  rw [hi] at hx hb he
  have lk := hl k (List.mem_of_getElem? hi)
  cases hx; cases hb; cases he
  refine h.inn k _ _ _ ?_ ?_ ?_
  ·exact getD_at (by omega)
  ·exact getD_at lk
  ·exact getD_at (by omega)
theorem keptN_nodup (gone : List Bool) (n : Nat) : (keptN gone n).Nodup := List.Pairwise.filter _ List.nodup_range
theorem keptN_lt {gone : List Bool} {n k : Nat} (h : k ∈ keptN gone n) : k < n := List.mem_range.1 (List.mem_filter.1 h).1
theorem MF.cut {w : World} {T : Nat → Prop} {N : Nat} {f : Fun} {c d : Value} (h : MF w T N f c d) : MF w (fun k => T k ∧ k < w.heap.size) N f c d := by
 obtain ⟨xs, ess, h1, h2⟩ := h.tree
 exact ⟨h.box, ⟨xs, ess, h1, fun k hk => ⟨h2 k hk, h1.tb_lt hk⟩⟩, h.par, fun k hk => ⟨fun h9 => (h.far k hk).1 h9.1, (h.far k hk).2⟩, fun h9 => h.out h9.1, h.ret, h.nm⟩
theorem MF.store_d {w0 w : World} {T T' : Nat → Prop} {N : Nat} {f : Fun} {c d d' : Value} {bs : List (List Ins)} {xs : List Value} {ess : List (List (Value × Value))} (h : MF w0 T N f c d) (ho : Only T w0.heap.size w0 w) (hk : OwnKd w 0 d' bs xs ess) (hT : ∀ k, TB d' xs ess k → T' k) (hTT : ∀ k, T' k → T k ∨ w0.heap.size ≤ k) :
  MF (w.setCell ⟨N, 3, none⟩ d') T' N (setBlocks f bs) c d' ∧ Only (fun k => k = N ∨ T k) w0.heap.size w0 (w.setCell ⟨N, 3, none⟩ d') := by
 have hN : ¬ T' N := fun h9 => by
  rcases hTT N h9 with h1 | h1
  ·exact h.out h1
  ·have := h.lt; omega
 have hbox : w.heap[N]? = some (.cells #[.string f.name, c, .int .i64 f.ret, d] 32 (0, 0)) := by
  rw [ho.block N h.lt h.out]
  exact h.box
 refine ⟨⟨?_, ⟨xs, ess, hk.tb_kept fun k h1 h2 => Below.heap_setCell w ⟨N, 3, none⟩ d' k (fun e => hN (by have e' : k = N := e; rw [← e']; exact hT k h2)), hT⟩, ⟨row_kept h.par.row fun k hv => ?_, h.par.ok⟩, fun k hv => ⟨fun h9 => ?_, (h.far k hv).2⟩, hN, h.ret, h.nm⟩, Only.setCell (S := fun k => k = N ∨ T k) (ho.more fun k _ h9 => Or.inr h9) (p := ⟨N, 3, none⟩) (.inl (.inl rfl)) _⟩
 ·rw [heap_setCell_same w N 3 _ _ d' hbox]
  rfl
 ·have e1 := (h.far k hv).2
  rw [Below.heap_setCell w ⟨N, 3, none⟩ d' k e1]
  exact ho.block k (row_lt h.par.row hv).2.1 (h.far k hv).1
 ·rcases hTT k h9 with h1 | h1
  ·exact (h.far k hv).1 h1
  ·have := (row_lt h.par.row hv).2.1; omega
end Go.Proofs.Ytamjcafjdioidaa
