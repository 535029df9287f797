/- Texts of the chain, without what is not wanted: TdR, TdK, TdF. No condition but sizes. -/
import Derived.WalkKit
import Derived.Deep.Slices
import Derived.Deep.Draws
import Derived.ChangeSame
import Derived.ChangeOld
import Derived.OwnWalk
import Derived.Laws.OwnMore
import Derived.Deep.AppendLies
import Derived.Test.YtamjcafjdioidaaRows
import Derived.ProofKit
import Derived.OpenShut
import Derived.JoinedCond
import Derived.WalkSpells
import Derived.WalkLawsBesides
import Derived.Deep.RegionHeld3
import Derived.Deep.LoopGhost
import Derived.Deep.QuietTactic
import Derived.BigQuiet
import Derived.Deep.DeepCutAuto
import Derived.Deep.CutBlock
import Derived.StillTailTactics
import Derived.Deep.RegionLaw
import Derived.Lib.SliceRun
import Derived.Laws.IdiomCopy
import Derived.Test.YtamjcafjdioidaaUz01
import Derived.Test.YtamjcafjdioidaaUz02
import Derived.Test.YtamjcafjdioidaaUz03
import Derived.Test.YtamjcafjdioidaaUz04
import Derived.Test.YtamjcafjdioidaaUz05
import Derived.Test.YtamjcafjdioidaaUz06
import Derived.Test.YtamjcafjdioidaaUz07
import Derived.Test.YtamjcafjdioidaaUz08
import Derived.Test.YtamjcafjdioidaaUz09
import Derived.Test.YtamjcafjdioidaaUz10
import Derived.Test.YtamjcafjdioidaaUz13
import Derived.Test.YtamjcafjdioidaaUz14
import Derived.Test.YtamjcafjdioidaaUz15
import Derived.Test.YtamjcafjdioidaaUz16
import Derived.Test.YtamjcafjdioidaaUz17
import Derived.Test.YtamjcafjdioidaaUz18
namespace Go.Proofs.Ytamjcafjdioidaa
set_option linter.unusedVariables false
def loseIf (gone : List Bool) (b : Nat) (bs : List (List Ins)) (p : Nat) : List (List Ins) := if (gone.getD p false && !(gone.getD b false)) = true then loseB p bs b else bs
def loseRow (gone : List Bool) (b : Nat) (bs : List (List Ins)) (k : Nat) : List (List Ins) := (List.range k).foldl (loseIf gone b) bs
def loseAll (gone : List Bool) (n : Nat) (bs : List (List Ins)) (k : Nat) : List (List Ins) := (List.range k).foldl (fun bs b => loseRow gone b bs n) bs
def unseenS (R : List Bool) (bs : List (List Ins)) : Option (List (List Ins)) := if R.any (fun r => !r) = true then some (withoutS (R.map fun r => !r) (loseAll (R.map fun r => !r) bs.length bs bs.length)) else none
theorem loseRow_next (gone : List Bool) (b : Nat) (bs : List (List Ins)) (k : Nat) : loseRow gone b bs (k + 1) = loseIf gone b (loseRow gone b bs k) k := by
 unfold loseRow
 rw [List.range_succ, List.foldl_append]
 rfl
theorem loseAll_next (gone : List Bool) (n : Nat) (bs : List (List Ins)) (k : Nat) : loseAll gone n bs (k + 1) = loseRow gone k (loseAll gone n bs k) n := by
 unfold loseAll
 rw [List.range_succ, List.foldl_append]
 rfl
theorem loseB_len (p : Int) (bs : List (List Ins)) (b : Nat) : (loseB p bs b).length = bs.length := by simp [loseB]
theorem dropP_op (p : Int) (x : Ins) : (dropP p x).op = x.op := by unfold dropP; split <;> rfl
theorem dropP_to {p : Int} {x : Ins} {t : Int} (h : t ∈ (dropP p x).to) : t ∈ x.to := by
 unfold dropP at h
 split at h
 ·exact List.mem_of_mem_eraseIdx h
 ·exact h
theorem takeWhile_mem {q : Ins → Bool} : ∀ {l : List Ins} {x : Ins}, x ∈ l.takeWhile q → x ∈ l ∧ q x = true
 | y :: l, x, h => by
  rw [List.takeWhile_cons] at h
  split at h
  ·rename_i hy
   rcases List.mem_cons.1 h with rfl | h
   ·exact ⟨List.mem_cons_self .., hy⟩
   ·exact ⟨List.mem_cons_of_mem _ (takeWhile_mem h).1, (takeWhile_mem h).2⟩
  ·cases h
theorem dropWhile_mem {q : Ins → Bool} {l : List Ins} {x : Ins} (h : x ∈ l.dropWhile q) : x ∈ l := (List.dropWhile_sublist q).subset h
theorem loseL_mem {p : Int} {l : List Ins} {y : Ins} (h : y ∈ loseL p l) : ∃ x, x ∈ l ∧ (y = x ∨ y = dropP p x ∧ x.op = 25) := by
 unfold loseL at h
 rcases List.mem_append.1 h with h1 | h1
 ·obtain ⟨x, hx, rfl⟩ := List.mem_map.1 h1
  obtain ⟨hx1, hx2⟩ := takeWhile_mem hx
  refine ⟨x, hx1, .inr ⟨rfl, ?_⟩⟩
  simpa [isPhi] using hx2
 ·exact ⟨y, dropWhile_mem h1, .inl rfl⟩
theorem phiLen_drop {p : Int} {x : Ins} (h : x.args.length = x.to.length) : (dropP p x).args.length = (dropP p x).to.length := by
 unfold dropP
 split
 ·rename_i hp
  have h1 := List.idxOf_lt_length_of_mem hp
  show (x.args.eraseIdx _).length = (x.to.eraseIdx _).length
  rw [List.length_eraseIdx, List.length_eraseIdx, if_pos (by omega), if_pos h1, h]
 ·exact h
theorem WfB.lose {n : Nat} {l : List Ins} (h : WfB n l) (p : Int) : WfB n (loseL p l) := by
 refine ⟨fun e => ?_, fun y hy ho => ?_, fun y hy ho => ?_, fun y hy ho => ?_, fun y hy t ht => ?_⟩
 ·apply h.ne
  have h1 : (loseL p l).length = l.length := by
   unfold loseL
   rw [List.length_append, List.length_map, ← List.length_append, List.takeWhile_append_dropWhile]
  rw [e] at h1
  exact List.eq_nil_of_length_eq_zero h1.symm
 ·obtain ⟨x, hx, h1 | ⟨h1, h2⟩⟩ := loseL_mem hy
  ·subst h1; exact h.brif y hx ho
  ·subst h1; rw [dropP_op] at ho; omega
 ·obtain ⟨x, hx, h1 | ⟨h1, h2⟩⟩ := loseL_mem hy
  ·subst h1; exact h.br y hx ho
  ·subst h1; rw [dropP_op] at ho; omega
 ·obtain ⟨x, hx, h1 | ⟨h1, h2⟩⟩ := loseL_mem hy
  ·subst h1; exact h.phi y hx ho
  ·subst h1; exact phiLen_drop (h.phi x hx h2)
 ·obtain ⟨x, hx, h1 | ⟨h1, h2⟩⟩ := loseL_mem hy
  ·subst h1; exact h.to_ y hx t ht
  ·subst h1; exact h.to_ x hx t (dropP_to ht)
theorem Wf.loseB {bs : List (List Ins)} (h : Wf bs) (p : Int) (b : Nat) : Wf (loseB p bs b) := fun l hl => by
 rw [loseB_len]
 unfold Go.Proofs.Ytamjcafjdioidaa.loseB at hl
 rcases Nat.lt_or_ge b bs.length with hb | hb
 ·rcases List.mem_or_eq_of_mem_set hl with h1 | h1
  ·exact h l h1
  ·rw [h1]
   have h2 : bs.getD b [] ∈ bs := List.mem_of_getElem? (getD_at hb)
   exact (h _ h2).lose p
 ·rw [List.set_eq_of_length_le hb] at hl
  exact h l hl
theorem Wf.loseIf {gone : List Bool} {bs : List (List Ins)} (h : Wf bs) (b p : Nat) : Wf (loseIf gone b bs p) := by
 unfold Go.Proofs.Ytamjcafjdioidaa.loseIf
 split
 ·exact h.loseB p b
 ·exact h
theorem loseIf_len (gone : List Bool) (bs : List (List Ins)) (b p : Nat) : (loseIf gone b bs p).length = bs.length := by
 unfold loseIf
 split
 ·exact loseB_len _ _ _
 ·rfl
theorem loseRow_wf {gone : List Bool} {bs : List (List Ins)} (h : Wf bs) (b : Nat) : ∀ k, Wf (loseRow gone b bs k) ∧ (loseRow gone b bs k).length = bs.length
 | 0 => ⟨h, rfl⟩
 | k + 1 => by
  obtain ⟨h1, h2⟩ := loseRow_wf h b k
  rw [loseRow_next]
  exact ⟨h1.loseIf b k, by rw [loseIf_len, h2]⟩
theorem loseAll_wf {gone : List Bool} {n : Nat} {bs : List (List Ins)} (h : Wf bs) : ∀ k, Wf (loseAll gone n bs k) ∧ (loseAll gone n bs k).length = bs.length
 | 0 => ⟨h, rfl⟩
 | k + 1 => by
  obtain ⟨h1, h2⟩ := loseAll_wf (gone := gone) (n := n) h k
  rw [loseAll_next]
  have h3 := loseRow_wf (gone := gone) h1 k n
  exact ⟨h3.1, by rw [h3.2, h2]⟩
theorem any_next {R : List Bool} {i : Nat} {r : Bool} (h : R[i]? = some r) : (R.take (i + 1)).any (fun r => !r) = ((R.take i).any (fun r => !r) || !r) := by
 rw [List.take_add_one, h, List.any_append]
 simp
def goneL (R : List Bool) (i : Nat) : List Bool := (R.take i).map (fun r => !r) ++ List.replicate (R.length - i) false
theorem goneL_zero (R : List Bool) : goneL R 0 = List.replicate R.length false := by simp [goneL]
theorem goneL_end (R : List Bool) : goneL R R.length = R.map fun r => !r := by simp [goneL]
theorem goneL_len {R : List Bool} {i : Nat} (h : i ≤ R.length) : (goneL R i).length = R.length := by unfold goneL; simp; omega
theorem goneL_next {R : List Bool} {i : Nat} {r : Bool} (h : R[i]? = some r) : (goneL R i).set i (!r) = goneL R (i + 1) := by
 have h1 := (List.getElem?_eq_some_iff.1 h).1
 have h3 : ((R.take i).map fun r => !r).length = i := by simp; omega
 unfold goneL
 rw [List.set_append_right _ _ (by omega), h3, Nat.sub_self, show R.length - i = R.length - (i + 1) + 1 by omega, List.replicate_succ, List.set_cons_zero, List.take_add_one, h]
 simp
end Go.Proofs.Ytamjcafjdioidaa

namespace Go.Proofs.Ytamjcafjdioidaa
open Go.RowKit
set_option linter.unusedVariables false
set_option linter.unusedSimpArgs false
def Fronts (l : List Ins) : Prop := ∀ (i j : Nat) x y, l[i]? = some x → l[j]? = some y → i ≤ j → y.op = 25 → x.op = 25
def mgTo (bs : List (List Ins)) (a : Nat) : Nat := (((endI bs a).map fun x : Ins => x.to.getD 0 0).getD 0).toNat
def mgB (P : List (List Int)) (bs : List (List Ins)) (a : Nat) : Bool :=
 match endI bs a with
 | some x => decide (x.op = 31) && !(decide (mgTo bs a = a)) && decide ((P.getD (mgTo bs a) []).length = 1) && !(decide ((((bs.getD (mgTo bs a) [])[0]?).map Ins.op).getD 0 = 25))
 | none => false
def mgJoin (bs : List (List Ins)) (a b : Nat) : List (List Ins) := (bs.set a ((bs.getD a []).dropLast ++ bs.getD b [])).set b []
def mgAt (bs : List (List Ins)) (a b : Nat) : List (List Ins) := (mgJoin bs a b).map fun l => l.map (movP b a)
def mergedS (P : List (List Int)) (bs : List (List Ins)) : Option (List (List Ins)) := ((List.range bs.length).find? (mgB P bs)).map fun a => withoutS ((List.replicate bs.length false).set (mgTo bs a) true) (mgAt bs a (mgTo bs a))
def mvL (p q : Int) (l : List Ins) (i : Nat) : List Ins := (l.take i).map (movP p q) ++ l.drop i
theorem mvL_zero (p q : Int) (l : List Ins) : mvL p q l 0 = l := by simp [mvL]
theorem mvL_end (p q : Int) (l : List Ins) : mvL p q l l.length = l.map (movP p q) := by simp [mvL]
theorem mvL_at {p q : Int} {l : List Ins} {i : Nat} {x : Ins} (h : l[i]? = some x) : (mvL p q l i)[i]? = some x := by
 have h1 := (List.getElem?_eq_some_iff.1 h).1
 unfold mvL
 rw [List.getElem?_append_right (by simp; omega), List.length_map, List.length_take, Nat.min_eq_left (by omega), Nat.sub_self, List.getElem?_drop]
 exact h
theorem mvL_next {p q : Int} {l : List Ins} {i : Nat} {x : Ins} (h : l[i]? = some x) : (mvL p q l i).set i (movP p q x) = mvL p q l (i + 1) := by
 have h1 := (List.getElem?_eq_some_iff.1 h).1
 have h2 : l.drop i = x :: l.drop (i + 1) := by
  rw [List.getElem?_eq_getElem h1] at h
  injection h with h
  rw [← h, List.getElem_cons_drop]
 have h3 : ((l.take i).map (movP p q)).length = i := by simp; omega
 unfold mvL
 rw [h2, List.set_append_right _ _ (by omega), h3, Nat.sub_self, List.set_cons_zero, List.take_add_one, h]
 simp
theorem mvL_same {p q : Int} {l : List Ins} {i : Nat} {x : Ins} (h : l[i]? = some x) (ho : x.op ≠ 25) : mvL p q l i = mvL p q l (i + 1) := by
 have h1 := (List.getElem?_eq_some_iff.1 h).1
 rw [← mvL_next h]
 unfold movP
 rw [if_neg ho]
 exact (set_self (mvL_at h)).symm
def mvB (p q : Int) (bs : List (List Ins)) (k : Nat) : List (List Ins) := (bs.take k).map (fun l => l.map (movP p q)) ++ bs.drop k
theorem mvB_zero (p q : Int) (bs : List (List Ins)) : mvB p q bs 0 = bs := by simp [mvB]
theorem mvB_end (p q : Int) (bs : List (List Ins)) : mvB p q bs bs.length = bs.map fun l => l.map (movP p q) := by simp [mvB]
theorem mvB_len (p q : Int) (bs : List (List Ins)) (k : Nat) : (mvB p q bs k).length = bs.length := by unfold mvB; simp; omega
theorem mvB_at {p q : Int} {bs : List (List Ins)} {k : Nat} {l : List Ins} (h : bs[k]? = some l) : (mvB p q bs k)[k]? = some l := by
 have h1 := (List.getElem?_eq_some_iff.1 h).1
 unfold mvB
 rw [List.getElem?_append_right (by simp; omega), List.length_map, List.length_take, Nat.min_eq_left (by omega), Nat.sub_self, List.getElem?_drop]
 exact h
theorem mvB_next {p q : Int} {bs : List (List Ins)} {k : Nat} {l : List Ins} (h : bs[k]? = some l) : (mvB p q bs k).set k (l.map (movP p q)) = mvB p q bs (k + 1) := by
 have h1 := (List.getElem?_eq_some_iff.1 h).1
 have h2 : bs.drop k = l :: bs.drop (k + 1) := by
  rw [List.getElem?_eq_getElem h1] at h
  injection h with h
  rw [← h, List.getElem_cons_drop]
 have h3 : ((bs.take k).map (fun l => l.map (movP p q))).length = k := by simp; omega
 unfold mvB
 rw [h2, List.set_append_right _ _ (by omega), h3, Nat.sub_self, List.set_cons_zero, List.take_add_one, h]
 simp
theorem mvB_nil {p q : Int} {bs : List (List Ins)} {k : Nat} (h : bs[k]? = some []) : mvB p q bs k = mvB p q bs (k + 1) := by
 have h1 := mvB_next (p := p) (q := q) h
 rw [← h1, List.map_nil]
 exact (set_self (mvB_at h)).symm
theorem fronts_none {l : List Ins} (h : Fronts l) (h0 : ((l[0]?).map Ins.op).getD 0 ≠ 25) : ∀ x, x ∈ l → x.op ≠ 25 := by
 intro x hx ho
 obtain ⟨j, hj⟩ := List.mem_iff_getElem?.1 hx
 have h1 := (List.getElem?_eq_some_iff.1 hj).1
 have h2 : l[0]? = some (l[0]'(by omega)) := List.getElem?_eq_getElem _
 have h3 := h 0 j _ x h2 hj (Nat.zero_le _) ho
 rw [h2] at h0
 exact h0 h3
theorem nd2_places {α : Type} {f : α → Value} {ess : List (List α)} : Nd2 f ess ↔ ∀ (i j p q : Nat) a b e e' k, ess[i]? = some a → ess[j]? = some b → a[p]? = some e → b[q]? = some e' → (f e).ownBlock = some k → (f e').ownBlock = some k → i = j ∧ p = q := by
 constructor
 ·rintro ⟨g1, g2⟩ i j p q a b e e' k hi hj hp hq h1 h2
  by_cases hij : i = j
  ·subst hij
   rw [hi] at hj
   cases hj
   refine ⟨rfl, (nd_iff.1 (g1 i a hi)) p q (f e) (f e') k ?_ ?_ h1 h2⟩
   ·rw [List.getElem?_map, hp]; rfl
   ·rw [List.getElem?_map, hq]; rfl
  ·exact absurd h2 (g2 i j a b e e' k hij hi hj (List.mem_of_getElem? hp) (List.mem_of_getElem? hq) h1)
 ·intro h
  refine ⟨fun i a hi => nd_iff.2 fun p q u v k hp hq h1 h2 => ?_, fun i j a b e e' k hij hi hj he he' h1 h2 => ?_⟩
  ·rw [List.getElem?_map] at hp hq
   cases hp' : a[p]? with
   | none => rw [hp'] at hp; cases hp
   | some e =>
    cases hq' : a[q]? with
    | none => rw [hq'] at hq; cases hq
    | some e' =>
     rw [hp'] at hp
     rw [hq'] at hq
     cases hp; cases hq
     exact (h i i p q a a e e' k hi hi hp' hq' h1 h2).2
  ·obtain ⟨p, hp⟩ := List.mem_iff_getElem?.1 he
   obtain ⟨q, hq⟩ := List.mem_iff_getElem?.1 he'
   exact hij (h i j p q a b e e' k hi hj hp hq h1 h2).1
theorem join_place {α : Type} {ess : List (List α)} {a b : Nat} {ea eb : List α} (ha : ess[a]? = some ea) (hb : ess[b]? = some eb) (hab : a ≠ b) {i p : Nat} {x : List α} {e : α} (hi : ((ess.set a (ea.dropLast ++ eb)).set b [])[i]? = some x) (hp : x[p]? = some e) :
  ∃ (i' p' : Nat) (x' : List α), ess[i']? = some x' ∧ x'[p']? = some e ∧ ((i ≠ a ∧ i ≠ b ∧ i' = i ∧ p' = p) ∨ (i = a ∧ p < ea.dropLast.length ∧ i' = a ∧ p' = p) ∨ (i = a ∧ i' = b ∧ p = ea.dropLast.length + p')) := by
 have la := (List.getElem?_eq_some_iff.1 ha).1
 have lb := (List.getElem?_eq_some_iff.1 hb).1
 by_cases e1 : i = b
 ·subst e1
  rw [List.getElem?_set_self (by rw [List.length_set]; exact lb)] at hi
  cases hi
  simp at hp
 ·rw [List.getElem?_set_ne (Ne.symm e1)] at hi
  by_cases e2 : i = a
  ·subst e2
   rw [List.getElem?_set_self la] at hi
   cases hi
   by_cases h3 : p < ea.dropLast.length
   ·rw [List.getElem?_append_left h3, List.getElem?_dropLast, if_pos (by rwa [List.length_dropLast] at h3)] at hp
    exact ⟨i, p, ea, ha, hp, .inr (.inl ⟨rfl, h3, rfl, rfl⟩)⟩
   ·rw [List.getElem?_append_right (by omega)] at hp
    exact ⟨b, p - ea.dropLast.length, eb, hb, hp, .inr (.inr ⟨rfl, rfl, by omega⟩)⟩
  ·rw [List.getElem?_set_ne (Ne.symm e2)] at hi
   exact ⟨i, p, x, hi, hp, .inl ⟨e2, e1, rfl, rfl⟩⟩
theorem nd2_join {α : Type} {f : α → Value} {ess : List (List α)} {a b : Nat} {ea eb : List α} (h : Nd2 f ess) (ha : ess[a]? = some ea) (hb : ess[b]? = some eb) (hab : a ≠ b) : Nd2 f ((ess.set a (ea.dropLast ++ eb)).set b []) := by
 rw [nd2_places] at h ⊢
 intro i j p q x y e e' k hi hj hp hq h1 h2
 obtain ⟨i', p', x', hi', hp', c1⟩ := join_place ha hb hab hi hp
 obtain ⟨j', q', y', hj', hq', c2⟩ := join_place ha hb hab hj hq
 have h3 := h i' j' p' q' x' y' e e' k hi' hj' hp' hq' h1 h2
 omega
theorem OwnKd.join {w w' : World} {gd n C a b : Nat} {bs : List (List Ins)} {xs : List Value} {ess : List (List (Value × Value))} {la lb : List Ins} {ea eb : List (Value × Value)} {v : Value} (h : OwnKd w 0 (.slice (some ⟨gd, 0, none⟩) n C) bs xs ess) (ha : bs[a]? = some la) (hb : bs[b]? = some lb) (hea : ess[a]? = some ea) (heb : ess[b]? = some eb) (hab : a ≠ b) (hla : la ≠ [])
  (hrow : w'.ownsRow 0 36 1 (.slice (some ⟨gd, 0, none⟩) n C) n ((xs.set a v).set b (.slice none 0 0)))
  (hv : w'.ownsRow 0 39 7 v (la.dropLast ++ lb).length (cellsOf (la.dropLast ++ lb) (ea.dropLast ++ eb))) (hvk : ∀ k, v.ownBlock = some k → w.heap.size ≤ k)
  (hk : ∀ k, k < w.heap.size → k ≠ gd → w'.heap[k]? = w.heap[k]?) : OwnKd w' 0 (.slice (some ⟨gd, 0, none⟩) n C) ((bs.set a (la.dropLast ++ lb)).set b []) ((xs.set a v).set b (.slice none 0 0)) ((ess.set a (ea.dropLast ++ eb)).set b []) := by
 have lna := (List.getElem?_eq_some_iff.1 ha).1
 have lnb := (List.getElem?_eq_some_iff.1 hb).1
 have hlx := h.lenx
 have hle := h.lene
 have hn : n = bs.length := by
  rcases h.row.2 with ⟨e, -⟩ | ⟨g, cap, cur, e, -⟩
  ·cases e
  ·cases e; rfl
 have tyD := (row_lt h.row rfl).2.2
 obtain ⟨xa, ea', hxa, hea', hca⟩ := h.row_at ha
 obtain ⟨xb, eb', hxb, heb', hcb⟩ := h.row_at hb
 rw [hea] at hea'
 rw [heb] at heb'
 cases hea'
 cases heb'
 have hkc : ∀ {x : Value} {l : List Ins} {es : List (Value × Value)}, OwnCd w 0 x l es → ∀ (j : Nat) y e, l[j]? = some y → es[j]? = some e → OwnV w' 0 e.1 y.args ∧ OwnI w' 0 e.2 y.to ∧ InsOk y := fun hc j y e hy hee => by
  obtain ⟨g1, g2, g3⟩ := hc.inn j y e hy hee
  refine ⟨⟨row_kept g1.row fun k hv => hk k (row_lt g1.row hv).2.1 (ty_ne (row_lt g1.row hv).2.2 tyD (by decide)), g1.ok⟩, ⟨row_kept g2.row fun k hv => hk k (row_lt g2.row hv).2.1 (ty_ne (row_lt g2.row hv).2.2 tyD (by decide)), g2.ok⟩, g3⟩
 refine ⟨by rw [List.length_set, List.length_set, ← hn]; exact hrow, by simp [hle], fun i x l es hx hl he => ?_, ?_, nd2_iff.2 (nd2_join (nd2_iff.1 h.nda) hea heb hab), nd2_iff.2 (nd2_join (nd2_iff.1 h.ndt) hea heb hab)⟩
 ·by_cases e1 : i = b
  ·subst e1
   rw [List.getElem?_set_self (by simp; omega)] at hx hl he
   cases hx; cases hl; cases he
   exact ⟨rfl, ⟨rfl, .inl ⟨rfl, rfl⟩⟩, fun j y e hy => by simp at hy, nd_nil, nd_nil⟩
  ·rw [List.getElem?_set_ne (Ne.symm e1)] at hx hl he
   by_cases e2 : i = a
   ·subst e2
    rw [List.getElem?_set_self (by omega)] at hx hl he
    cases hx; cases hl; cases he
    have l1 := hca.len
    have l2 := hcb.len
    have nn := nd2_join (f := Prod.fst) (nd2_iff.1 h.nda) hea heb hab
    have nt := nd2_join (f := Prod.snd) (nd2_iff.1 h.ndt) hea heb hab
    have hat : ((ess.set i (ea.dropLast ++ eb)).set b [])[i]? = some (ea.dropLast ++ eb) := by
     rw [List.getElem?_set_ne (Ne.symm e1), List.getElem?_set_self (by omega)]
    refine ⟨by simp [l1, l2], hv, fun j y e hy hee => ?_, nn.1 i _ hat, nt.1 i _ hat⟩
    have hdl : ea.dropLast.length = la.dropLast.length := by simp [l1]
    by_cases hj : j < la.dropLast.length
    ·rw [List.getElem?_append_left hj, List.getElem?_dropLast, if_pos (by rwa [List.length_dropLast] at hj)] at hy
     rw [List.getElem?_append_left (by omega), List.getElem?_dropLast, if_pos (by rw [l1]; rwa [List.length_dropLast] at hj)] at hee
     exact hkc hca j y e hy hee
    ·rw [List.getElem?_append_right (by omega)] at hy
     rw [List.getElem?_append_right (by omega), hdl] at hee
     exact hkc hcb _ y e hy hee
   ·rw [List.getElem?_set_ne (Ne.symm e2)] at hx hl he
    have hc := h.inn i x l es hx hl he
    refine ⟨hc.len, row_kept hc.row fun k hv' => hk k (row_lt hc.row hv').2.1 (ty_ne (row_lt hc.row hv').2.2 tyD (by decide)), hkc hc, hc.nda, hc.ndt⟩
 ·have h1 : Nd (xs.set a v) := nd_set h.ndx hxa fun k hk' => .inr fun y hy => fun e => by
   obtain ⟨j, hj⟩ := List.mem_iff_getElem?.1 hy
   have hjl := (List.getElem?_eq_some_iff.1 hj).1
   have := (h.own_x (List.mem_of_getElem? hj) k e).2
   have := hvk k hk'
   omega
  refine nd_set h1 (x := xb) (by rw [List.getElem?_set_ne hab]; exact hxb) fun k hk' => by cases hk'
end Go.Proofs.Ytamjcafjdioidaa

namespace Go.Proofs.Ytamjcafjdioidaa
open Go.RowKit
set_option linter.unusedSimpArgs false
set_option linter.unusedVariables false
set_option maxRecDepth 100000 in
set_option maxHeartbeats 6400000 in
theorem tunseens_any {w : World} {T : Nat → Prop} {N : Nat} {f : Fun} {c d : Value} {Cp : Nat → Prop} (hCp : ∀ k, c.ownBlock = some k → Cp k) (h : MF w T N f c d) (hs : Small f) (hwf : Wf f.blocks) :
  Calls Try.prog 38 #[.pointer (some ⟨N, 0, none⟩)] w (RulePost w T N f Cp (unseenS (reachF f.blocks) f.blocks)) := by
 replace hCp := hide hCp
 obtain ⟨R, hR⟩ : ∃ R, Hid (R = reachF f.blocks) := ⟨_, hide rfl⟩
 obtain ⟨n, hn⟩ : ∃ n, Hid (n = f.blocks.length) := ⟨_, hide rfl⟩
 have hnb : n ≤ 2000000 := by rw [hn.out]; exact hs.blocks
 have hRl : Hid (R.length = n) := hide (by rw [hR.out, hn.out, reach_len])
 obtain ⟨res, hres⟩ : ∃ res, Hid (res = unseenS R f.blocks) := ⟨_, hide rfl⟩
 rw [← hR.out, ← hres.out]
 obtain ⟨xs0, ess0, hk0, hT0⟩ := h.tree
 obtain ⟨Ad, Cd, hdf⟩ := row_form hk0.row
 subst hdf
 obtain ⟨Ac, Cc, hcf⟩ := row_form h.par.row
 subst hcf
 have hNlt := h.lt
 have hbox := h.box
 have b0 := box_cell9 hbox 0 rfl
 have b1 := box_cell9 hbox 1 rfl
 have b2 := box_cell9 hbox 2 rfl
 have b3 := box_cell9 hbox 3 rfl
 obtain ⟨np, hnp⟩ : ∃ np, Hid (np = f.params.length) := ⟨_, hide rfl⟩
 have cR : Hid (Calls Try.prog 22 #[f.v (.slice Ac np Cc) (.slice Ad n Cd)] w (ReachPost n R w)) := hide (by
  have := reach_any f _ _ w w.heap.size (Nat.le_refl _) h.rep hs
  rw [← hn.out, ← hR.out, ← hnp.out] at this
  exact this)
 have hcut := h.cut
 have hTT : Hid (∀ k, T k ∧ k < w.heap.size → T k) := hide (fun k hk => hk.1)
 rw [← hnp.out] at b1
 rw [← hn.out] at b3
 rw [← hnp.out, ← hn.out] at hcut
 obtain ⟨i0, hi0, hz0, hz1, hz2⟩ := cinfo_parts cinfo_bool
 replace hi0 := hide hi0
 replace hz0 := hide hz0
 replace hz1 := hide hz1
 replace hz2 := hide hz2
 have hself := Below.refl w.heap.size w
 replace h := hide h
 replace hcut := hide hcut
 replace hk0 := hide hk0
 replace hT0 := hide hT0
 replace hbox := hide hbox
 replace hwf := hide hwf
 replace hs := hide hs
 go_enter Try.func38, Try.ntmps38
 go_wp2_with (fail)
 refine cR.out.mono ?_
 rintro e w1 ⟨gr, rfl, hrr, hb1⟩
 obtain ⟨-, hrd⟩ := bool_reads hrr
 have hgrl : gr < w1.heap.size := (row_lt hrr rfl).2.1
 have hgrw : w.heap.size ≤ gr := (row_lt hrr rfl).1
 replace hrr := hide hrr
 replace hrd := hide hrd
 have hw1s := hb1.size
 clear cR hself b0 b1 b2 b3
 go_wp2_with (at_make; refine wpList_make_full _ rfl (.tmp 16) (.tmp 16) _ rfl w1.heap.size 4 i0 _ 1 Try.underlying53 hi0.out hz0.out hz1.out .i64 .i64 n n n rfl rfl rfl rfl ?c1 ?c2 (Nat.le_refl _) ?_)
 case c1 => rw [hz2.out]; omega
 case c2 => unfold maxLen; omega
 intro w2 hown2 hg2
 have hb2 := below_grown0 hg2
 obtain ⟨G, hG⟩ : ∃ G, Hid (G = w1.heap.size) := ⟨_, hide rfl⟩
 rw [← hG.out]
 have hrow0 : Hid (w2.ownsRow w1.heap.size 4 1 (.slice (some ⟨G, 0, none⟩) n n) n ((goneL R 0).map Value.bool)) := hide (by
  rw [hG.out, goneL_zero, hRl.out]
  exact made_bools hown2)
 have hGw2 : G < w2.heap.size := (row_lt hrow0.out rfl).2.1
 have hany0 : Hid (false = (R.take 0).any fun r => !r) := hide (by simp)
 replace hown2 := hide hown2
 replace hg2 := hide hg2
 go_wp2
 go_loopw [5, 20] (fun s5 s wr => ∃ (i : Nat) (sm : Bool), s5 = .bool sm ∧ s = .int .i64 i ∧ i ≤ n ∧ Hid (sm = (R.take i).any fun r => !r) ∧ Hid (wr.ownsRow w1.heap.size 4 1 (.slice (some ⟨G, 0, none⟩) n n) n ((goneL R i).map Value.bool)) ∧ Below w1.heap.size w1 wr) (fun _ s _ => n - (intOf s).toNat)
 case atStart => exact ⟨0, false, rfl, rfl, Nat.zero_le _, hany0, hrow0, hb2⟩
 case round =>
  clear hrow0 hb2
  rename World => V
  obtain ⟨i, sm, rfl, rfl, hi, hany, hrowV, hbV⟩ := hrel
  have hVs := hbV.size
  by_cases hlt : i < n
  ·have hii : (i : Int) < (n : Int) := by omega
   obtain ⟨r, hr⟩ := get_ex (l := R) (k := i) (by rw [hRl.out]; exact hlt)
   have rr := hrd.out i r hr.out V hbV
   have hgb : ∃ u, (goneL R i)[i]? = some u := ⟨_, List.getElem?_eq_getElem (by rw [goneL_len (by rw [hRl.out]; exact hi), hRl.out]; exact hlt)⟩
   obtain ⟨u, hu⟩ := hgb
   have r1 := OwnB.cell hrowV.out hu hlt
   have r2 := row_free hrowV.out i
   have hrow2 := hide (by have h9 := (World.ownsRow.stored hrowV.out i (.bool (!r))).1; rwa [← List.map_set, goneL_next hr.out] at h9)
   have hGw : w1.heap.size ≤ G := by have := hG.out; omega
   have hbV2 : Below w1.heap.size w1 (V.setCell ⟨G, i, none⟩ (.bool (!r))) := hbV.setCell hGw _
   have hany2 := hide (any_next hr.out)
   replace hr := hide hr
   clear hu
   cases r with
   | true =>
    have hany3 : Hid (sm = (R.take (i + 1)).any fun r => !r) := hide (by rw [hany2.out, ← hany.out]; simp)
    cases sm with
    | true =>
     go_wp2
     go_roundw
     case rel => exact ⟨i + 1, _, rfl, by go_num, hlt, hany3, hrow2, hbV2⟩
     case measure => simp [intOf]; omega
    | false =>
     go_wp2
     go_roundw
     case rel => exact ⟨i + 1, _, rfl, by go_num, hlt, hany3, hrow2, hbV2⟩
     case measure => simp [intOf]; omega
   | false =>
    have hany3 : Hid (true = (R.take (i + 1)).any fun r => !r) := hide (by rw [hany2.out, ← hany.out]; simp)
    cases sm with
    | true =>
     go_wp2
     go_roundw
     case rel => exact ⟨i + 1, _, rfl, by go_num, hlt, hany3, hrow2, hbV2⟩
     case measure => simp [intOf]; omega
    | false =>
     go_wp2
     go_roundw
     case rel => exact ⟨i + 1, _, rfl, by go_num, hlt, hany3, hrow2, hbV2⟩
     case measure => simp [intOf]; omega
  ·obtain rfl : n = i := by omega
   have hRa : Hid (sm = R.any fun r => !r) := hide (by rw [hany.out, List.take_of_length_le (by rw [hRl.out]; exact Nat.le_refl _)])
   have hwV : Below w.heap.size w V := hb1.trans (hbV.mono hw1s)
   cases sm with
   | false =>
    have hfin : Hid (RulePost w T N f Cp res (.returned (.bool false)) V) := hide (RulePost.none_ (by
     rw [hres.out]
     unfold unseenS
     rw [← hRa.out]
     rfl) h.out hwV hCp.out)
    go_wp2
    go_ret
    exact hfin.out
   | true =>
    obtain ⟨gone, hgone⟩ : ∃ gone, Hid (gone = R.map fun r => !r) := ⟨_, hide rfl⟩
    have hrow3 : Hid (V.ownsRow w1.heap.size 4 1 (.slice (some ⟨G, 0, none⟩) n n) n (gone.map Value.bool)) := hide (by
     have h9 := hrowV.out
     rwa [← hRl.out, goneL_end, ← hgone.out, hRl.out] at h9)
    have hgl : Hid (gone.length = n) := hide (by rw [hgone.out, List.length_map, hRl.out])
    have hfound : Hid (res = some (withoutS gone (loseAll gone n f.blocks n))) := hide (by
     rw [hres.out]
     unfold unseenS
     rw [← hRa.out, if_pos rfl, ← hgone.out, ← hn.out])
    have hGlt : G < V.heap.size := (row_lt hrow3.out rfl).2.1
    have hGT : ¬ (T G ∧ G < w.heap.size) := fun h9 => by have := hG.out; omega
    have hGN : G ≠ N := by have := hG.out; omega
    have hgo : Hid (∀ k g, gone[k]? = some g → ∀ w', Only (fun k => T k ∧ k < w.heap.size) V.heap.size V w' → w'.cell? ⟨G, k, none⟩ = some (.bool g)) := hide (fun k g hg => on_fact (OwnB.cell hrow3.out hg (by have := (List.getElem?_eq_some_iff.1 hg).1; have := hgl.out; omega)) hGlt hGT)
    have hm0 : Hid (MF V (fun k => T k ∧ k < w.heap.size) N (setBlocks f (loseAll gone n f.blocks 0)) (.slice Ac np Cc) (.slice Ad n Cd)) := hide (hcut.out.below hwV)
    have hon0 : Only (fun k => T k ∧ k < w.heap.size) V.heap.size V V := Only.refl _ _ _
    obtain ⟨V1, hV1⟩ : ∃ V1, Hid (V1 = V) := ⟨_, hide rfl⟩
    rw [← hV1.out] at hwV hrow3 hGlt hgo hm0 hon0 ⊢
    clear hrowV
    go_wp2
    go_loopw [40] (fun s wr => ∃ b : Nat, s = .int .i64 b ∧ b ≤ n ∧ Hid (MF wr (fun k => T k ∧ k < w.heap.size) N (setBlocks f (loseAll gone n f.blocks b)) (.slice Ac np Cc) (.slice Ad n Cd)) ∧ Only (fun k => T k ∧ k < w.heap.size) V1.heap.size V1 wr) (fun s _ => n - (intOf s).toNat)
    case atStart => exact ⟨0, rfl, Nat.zero_le _, hm0, hon0⟩
    case round =>
     clear hm0 hon0
     rename World => V2
     obtain ⟨b, rfl, hb, hmb, hon⟩ := hrel
     have hV2s := hon.size
     by_cases hltb : b < n
     ·have hbi : (b : Int) < (n : Int) := by omega
      obtain ⟨gb, hgb⟩ := get_ex (l := gone) (k := b) (by rw [hgl.out]; exact hltb)
      have hm1 : Hid (MF V2 (fun k => T k ∧ k < w.heap.size) N (setBlocks f (loseRow gone b (loseAll gone n f.blocks b) 0)) (.slice Ac np Cc) (.slice Ad n Cd)) := hmb
      have hgbo := hgo.out b gb hgb.out
      go_wp2
      go_loopw [45] (fun s wr => ∃ p : Nat, s = .int .i64 p ∧ p ≤ n ∧ Hid (MF wr (fun k => T k ∧ k < w.heap.size) N (setBlocks f (loseRow gone b (loseAll gone n f.blocks b) p)) (.slice Ac np Cc) (.slice Ad n Cd)) ∧ Only (fun k => T k ∧ k < w.heap.size) V1.heap.size V1 wr) (fun s _ => n - (intOf s).toNat)
      case atStart => exact ⟨0, rfl, Nat.zero_le _, hm1, hon⟩
      case round =>
       clear hm1 hmb hon
       rename World => V3
       obtain ⟨p, rfl, hp, hmp, hon3⟩ := hrel
       have hV3s := hon3.size
       by_cases hltp : p < n
       ·have hpi : (p : Int) < (n : Int) := by omega
        obtain ⟨gp, hgp⟩ := get_ex (l := gone) (k := p) (by rw [hgl.out]; exact hltp)
        have c1 := hgbo V3 hon3
        have c2 := hgo.out p gp hgp.out V3 hon3
        have hgd1 : Hid (gone.getD p false = gp) := hide (by rw [List.getD_eq_getElem?_getD, hgp.out]; rfl)
        have hgd2 : Hid (gone.getD b false = gb) := hide (by rw [List.getD_eq_getElem?_getD, hgb.out]; rfl)
        have hnx := hide (loseRow_next gone b (loseAll gone n f.blocks b) p)
        cases gp with
        | false =>
         have hm2 : Hid (MF V3 (fun k => T k ∧ k < w.heap.size) N (setBlocks f (loseRow gone b (loseAll gone n f.blocks b) (p + 1))) (.slice Ac np Cc) (.slice Ad n Cd)) := hide (by
          rw [hnx.out]
          unfold loseIf
          rw [hgd1.out]
          exact hmp.out)
         go_wp2
         go_roundw
         case rel => exact ⟨p + 1, by go_num, hltp, hm2, hon3⟩
         case measure => simp [intOf]; omega
        | true =>
         cases gb with
         | true =>
          have hm2 : Hid (MF V3 (fun k => T k ∧ k < w.heap.size) N (setBlocks f (loseRow gone b (loseAll gone n f.blocks b) (p + 1))) (.slice Ac np Cc) (.slice Ad n Cd)) := hide (by
           rw [hnx.out]
           unfold loseIf
           rw [hgd1.out, hgd2.out]
           exact hmp.out)
          go_wp2
          go_roundw
          case rel => exact ⟨p + 1, by go_num, hltp, hm2, hon3⟩
          case measure => simp [intOf]; omega
         | false =>
          have cL : Hid (Calls Try.prog 56 #[.pointer (some ⟨N, 0, none⟩), .int .i64 b, .int .i64 p] V3 fun e w' => e = .returned (.tuple #[]) ∧ Hid (MF w' (fun k => T k ∧ k < w.heap.size) N (setBlocks f (loseRow gone b (loseAll gone n f.blocks b) (p + 1))) (.slice Ac np Cc) (.slice Ad n Cd)) ∧ Only (fun k => T k ∧ k < w.heap.size) V1.heap.size V1 w') := hide (by
           have hw1 := loseAll_wf (gone := gone) (n := n) hwf.out b
           have hw2 := loseRow_wf (gone := gone) hw1.1 b p
           have hlb : (loseRow gone b (loseAll gone n f.blocks b) p)[b]? = some ((loseRow gone b (loseAll gone n f.blocks b) p).getD b []) := getD_at (by rw [hw2.2, hw1.2, ← hn.out]; exact hltb)
           refine (lose_any hmp.out b p hlb (hw2.1 _ (List.mem_of_getElem? hlb)).phi).mono ?_
           rintro e w' ⟨rfl, h1, h2⟩
           refine ⟨rfl, hide ?_, hon3.next (Nat.le_refl _) h2⟩
           rw [hnx.out]
           unfold loseIf loseB
           rw [hgd1.out, hgd2.out]
           exact h1)
          go_wp2_with (fail)
          refine cL.out.mono ?_
          rintro e w4 ⟨rfl, hm4, hon4⟩
          go_wp2
          go_roundw
          case rel => exact ⟨p + 1, by go_num, hltp, hm4, hon4⟩
          case measure => simp [intOf]; omega
       ·obtain rfl : n = p := by omega
        have hm2 : Hid (MF V3 (fun k => T k ∧ k < w.heap.size) N (setBlocks f (loseAll gone n f.blocks (b + 1))) (.slice Ac np Cc) (.slice Ad n Cd)) := hide (by
         rw [loseAll_next]
         exact hmp.out)
        go_wp2
        go_roundw
        case rel => exact ⟨b + 1, by go_num, hltb, hm2, hon3⟩
        case measure => simp [intOf]; omega
     ·obtain rfl : n = b := by omega
      have hwfA := hide (loseAll_wf (gone := gone) (n := n) hwf.out n)
      have cW : Hid (Calls Try.prog 59 #[.pointer (some ⟨N, 0, none⟩), .slice (some ⟨G, 0, none⟩) n n] V2 fun e w' => e = .returned (.tuple #[]) ∧ RulePost w T N f Cp res (.returned (.bool true)) w') := hide (by
       have hlen : (setBlocks f (loseAll gone n f.blocks n)).blocks.length = n := by show (loseAll gone n f.blocks n).length = n; rw [hwfA.out.2, ← hn.out]
       have hrow4 : V2.ownsRow 0 4 1 (.slice (some ⟨G, 0, none⟩) n n) n (gone.map Value.bool) := row_mono (row_kept hrow3.out fun k hk => hon.block k (row_lt hrow3.out hk).2.1 (by cases hk; exact hGT)) (Nat.zero_le _)
       have h9 := twithout_any hmb.out (by rw [hlen]; exact hnb) (fun l hl => (hwfA.out.1 l hl).to_) (gone := gone) (G := G) (by rw [hlen]; exact hgl.out) (by rw [hlen]; exact hrow4) hGT hGN
       rw [hlen] at h9
       refine h9.mono ?_
       rintro e w' ⟨rfl, d', h1, h2⟩
       refine ⟨rfl, ?_⟩
       rw [hfound.out]
       have hwV2 : w.heap.size ≤ V1.heap.size := hwV.size
       refine ⟨_, _, d', fun k hk => ?_, ⟨rfl, h1⟩, ?_, fun k hk => .inl (hCp.out k (by cases Ac <;> exact hk))⟩
       ·rcases hk with hk | hk
        ·exact .inl hk.1
        ·right; omega
       ·refine (Only.of_below hwV).trans (((hon.mono hwV2).more fun k _ hk => Or.inr hk.1).trans ((h2.mono (by omega)).more fun k _ hk => hk.imp_right fun h8 => h8.1)))
      go_wp2_with (fail)
      refine cW.out.mono ?_
      rintro e w9 ⟨rfl, hfin⟩
      replace hfin := hide hfin
      go_wp2
      go_ret
      exact hfin.out
end Go.Proofs.Ytamjcafjdioidaa
