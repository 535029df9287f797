/- Texts of the chain, without what is not wanted: TdP, DelP, Hst. No condition but sizes. -/
import Derived.WalkKit
import Derived.Deep.Slices
import Derived.Deep.Draws
import Derived.ChangeSame
import Derived.ChangeOld
import Derived.OwnWalk
import Derived.Laws.OwnMore
import Derived.Deep.AppendLies
import Derived.Test.YtamjcafjdioidaaRows
import Derived.ProofKit
import Derived.OpenShut
import Derived.JoinedCond
import Derived.WalkSpells
import Derived.WalkLawsBesides
import Derived.Deep.RegionHeld3
import Derived.Deep.LoopGhost
import Derived.Deep.QuietTactic
import Derived.BigQuiet
import Derived.Lib.SliceRun
import Derived.Laws.IdiomCopy
import Derived.Test.YtamjcafjdioidaaUz01
import Derived.Test.YtamjcafjdioidaaUz02
namespace Go.Proofs.Ytamjcafjdioidaa
set_option linter.unusedVariables false
def isPhi (x : Ins) : Bool := x.op == 25
def dropP (p : Int) (x : Ins) : Ins := if p ∈ x.to then ⟨x.op, x.reg, x.ty, x.num, x.flags, x.args.eraseIdx (x.to.idxOf p), x.to.eraseIdx (x.to.idxOf p)⟩ else x
def loseL (p : Int) (l : List Ins) : List Ins := (l.takeWhile isPhi).map (dropP p) ++ l.dropWhile isPhi
def PhiLen (l : List Ins) : Prop := ∀ x, x ∈ l → x.op = 25 → x.args.length = x.to.length
def mixP (p : Int) (l : List Ins) (i : Nat) : List Ins := (l.take i).map (dropP p) ++ l.drop i
theorem mixP_zero (p : Int) (l : List Ins) : mixP p l 0 = l := by simp [mixP]
theorem mixP_len (p : Int) (l : List Ins) (i : Nat) : (mixP p l i).length = l.length := by unfold mixP; simp; omega
theorem mixP_at {p : Int} {l : List Ins} {i : Nat} {x : Ins} (h : l[i]? = some x) : (mixP p l i)[i]? = some x := by
 have h1 := (List.getElem?_eq_some_iff.1 h).1
 unfold mixP
 rw [List.getElem?_append_right (by simp; omega), List.length_map, List.length_take, Nat.min_eq_left (by omega), Nat.sub_self, List.getElem?_drop]
 exact h
theorem mixP_next {p : Int} {l : List Ins} {i : Nat} {x : Ins} (h : l[i]? = some x) : (mixP p l i).set i (dropP p x) = mixP p l (i + 1) := by
 have h1 := (List.getElem?_eq_some_iff.1 h).1
 have h2 : l.drop i = x :: l.drop (i + 1) := by
  rw [List.getElem?_eq_getElem h1] at h
  injection h with h
  rw [← h, List.getElem_cons_drop]
 have h3 : ((l.take i).map (dropP p)).length = i := by simp; omega
 unfold mixP
 rw [h2, List.set_append_right _ _ (by omega), h3, Nat.sub_self, List.set_cons_zero, List.take_add_one, h]
 simp
theorem mixP_stop {p : Int} {l : List Ins} {i : Nat} (h : ∀ (j : Nat) x, j < i → l[j]? = some x → x.op = 25) (hs : i = l.length ∨ ∃ x, l[i]? = some x ∧ x.op ≠ 25) : mixP p l i = loseL p l := by
 have key : ∀ (l : List Ins) (i : Nat), (∀ (j : Nat) x, j < i → l[j]? = some x → x.op = 25) → (i = l.length ∨ ∃ x, l[i]? = some x ∧ x.op ≠ 25) → l.takeWhile isPhi = l.take i ∧ l.dropWhile isPhi = l.drop i := by
  intro l
  induction l with
  | nil => intro i _ _; simp
  | cons y l ih =>
   intro i h hs
   cases i with
   | zero =>
    have hy : isPhi y = false := by
     rcases hs with h1 | ⟨x, h1, h2⟩
     ·simp at h1
     ·cases h1
      unfold isPhi
      rw [beq_eq_false_iff_ne]; exact h2
    rw [List.takeWhile_cons, List.dropWhile_cons, hy]
    simp
   | succ i =>
    have hy : isPhi y = true := by
     unfold isPhi
     rw [beq_iff_eq]
     exact h 0 y (by omega) rfl
    obtain ⟨h1, h2⟩ := ih i (fun j x hj hx => h (j + 1) x (by omega) (by simpa using hx)) (by
     rcases hs with h1 | ⟨x, h1, h2⟩
     ·left; simpa using h1
     ·right; exact ⟨x, by simpa using h1, h2⟩)
    rw [List.takeWhile_cons, List.dropWhile_cons, hy]
    simp [h1, h2]
 obtain ⟨h1, h2⟩ := key l i h hs
 unfold mixP loseL
 rw [h1, h2]
theorem dropP_no {p : Int} {x : Ins} (h : p ∉ x.to) : dropP p x = x := by unfold dropP; rw [if_neg h]
theorem mixP_same {p : Int} {l : List Ins} {i : Nat} {x : Ins} (h : l[i]? = some x) (hp : p ∉ x.to) : mixP p l i = mixP p l (i + 1) := by
 rw [← mixP_next h, dropP_no hp]
 apply List.ext_getElem?
 intro j
 by_cases e : i = j
 ·subst e
  rw [List.getElem?_set_self (by rw [mixP_len]; exact (List.getElem?_eq_some_iff.1 h).1), mixP_at h]
 ·rw [List.getElem?_set_ne e]
structure WfB (n : Nat) (l : List Ins) : Prop where
 ne : l ≠ []
 brif : ∀ x, x ∈ l → x.op = 32 → x.to.length = 2 ∧ x.args.length = 1
 br : ∀ x, x ∈ l → x.op = 31 → x.to.length = 1
 phi : PhiLen l
 to_ : ∀ x, x ∈ l → ∀ t, t ∈ x.to → 0 ≤ t ∧ t < n
def Wf (bs : List (List Ins)) : Prop := ∀ l, l ∈ bs → WfB bs.length l
def setEnd (l : List Ins) (x : Ins) : List Ins := l.set (l.length - 1) x
def endI (bs : List (List Ins)) (b : Nat) : Option Ins := (bs[b]?).bind fun l => l[l.length - 1]?
def brJ (t : Int) : Ins := ⟨31, -1, 0, 0, 0, [], [t]⟩
def twB (R : List Bool) (bs : List (List Ins)) (b : Nat) : Bool := R.getD b false && match endI bs b with | some x => decide (x.op = 32) && decide (x.to.getD 0 0 = x.to.getD 1 0) | none => false
def twiceS (R : List Bool) (bs : List (List Ins)) : Option (List (List Ins)) := ((List.range bs.length).find? (twB R bs)).map fun b => bs.set b (setEnd (bs.getD b []) (brJ (((endI bs b).map fun x => x.to.getD 0 0).getD 0)))
theorem find_range {n i : Nat} {p : Nat → Bool} (hi : i < n) (hp : p i = true) (hno : ∀ j, j < i → p j = false) : (List.range n).find? p = some i := by
 rw [List.find?_range_eq_some]
 exact ⟨hp, List.mem_range.2 hi, fun j hj => by simp [hno j hj]⟩
theorem find_range_none {n : Nat} {p : Nat → Bool} (hno : ∀ j, j < n → p j = false) : (List.range n).find? p = none := by
 rw [List.find?_eq_none]
 intro j hj
 simp [hno j (List.mem_range.1 hj)]
theorem endI_at {bs : List (List Ins)} {b q : Nat} {l : List Ins} {x : Ins} (hb : bs[b]? = some l) (hq : l.length = q + 1) (hx : l[q]? = some x) : endI bs b = some x := by
 unfold endI
 rw [hb]
 show l[l.length - 1]? = some x
 rw [hq, Nat.add_sub_cancel]
 exact hx
def dcB (R : List Bool) (bs : List (List Ins)) (b : Nat) : Bool := R.getD b false && match endI bs b with | some x => decide (x.op = 32) && decide ((x.args.getD 0 ⟨0, 0, 0⟩).kind = 2) | none => false
def goesI (x : Ins) : Int × Int := if (x.args.getD 0 ⟨0, 0, 0⟩).bits = 1 then (x.to.getD 0 0, x.to.getD 1 0) else (x.to.getD 1 0, x.to.getD 0 0)
def loseB (p : Int) (bs : List (List Ins)) (b : Nat) : List (List Ins) := bs.set b (loseL p (bs.getD b []))
def decAt (bs : List (List Ins)) (b : Nat) (o : Int × Int) : List (List Ins) := if o.2 = o.1 then bs.set b (setEnd (bs.getD b []) (brJ o.1)) else loseB b (bs.set b (setEnd (bs.getD b []) (brJ o.1))) o.2.toNat
def decidedS (R : List Bool) (bs : List (List Ins)) : Option (List (List Ins)) := ((List.range bs.length).find? (dcB R bs)).map fun b => decAt bs b (((endI bs b).map goesI).getD (0, 0))
theorem phiLen_setEnd {l : List Ins} {x : Ins} (h : PhiLen l) (hx : x.op ≠ 25) : PhiLen (setEnd l x) := fun y hy ho => by
 rcases List.mem_or_eq_of_mem_set hy with h1 | h1
 ·exact h y h1 ho
 ·rw [h1] at ho; exact (hx ho).elim
end Go.Proofs.Ytamjcafjdioidaa

namespace Go.Proofs.Ytamjcafjdioidaa
open Go.RowKit
set_option linter.unusedVariables false
def patch (xs : List Value) : Nat → List Value → List Value
 | _, [] => xs
 | o, v :: r => patch (xs.set o v) (o + 1) r
theorem patch_eq : ∀ (vs : List Value) (xs : List Value) (o : Nat), o + vs.length ≤ xs.length → patch xs o vs = xs.take o ++ vs ++ xs.drop (o + vs.length)
 | [], xs, o, h => by simp [patch]
 | v :: r, xs, o, h => by
  simp only [List.length_cons] at h
  rw [patch, patch_eq r (xs.set o v) (o + 1) (by rw [List.length_set]; omega)]
  have h1 : (xs.set o v).take (o + 1) = xs.take o ++ [v] := by
   apply List.ext_getElem?
   intro i
   rw [List.getElem?_take]
   by_cases hi : i < o + 1
   ·rw [if_pos hi]
    by_cases e : i = o
    ·subst e
     rw [List.getElem?_set_self (by omega), List.getElem?_append_right (by rw [List.length_take]; omega), List.length_take, show i - min i xs.length = 0 by omega]
     rfl
    ·rw [List.getElem?_set_ne (Ne.symm e), List.getElem?_append_left (by rw [List.length_take]; omega), List.getElem?_take, if_pos (by omega)]
   ·rw [if_neg hi, List.getElem?_eq_none (by simp; omega)]
  have h2 : (xs.set o v).drop (o + 1 + r.length) = xs.drop (o + (r.length + 1)) := by
   rw [List.drop_set_of_lt (by omega), show o + 1 + r.length = o + (r.length + 1) by omega]
  rw [h1, h2]
  simp
theorem row_setCells {B : Nat} {T : TypeId} {s g n C : Nat} : ∀ (vs : List Value) (o : Nat) (w : World) (xs : List Value), w.ownsRow B T s (.slice (some ⟨g, 0, none⟩) n C) n xs → (w.setCells g o vs).ownsRow B T s (.slice (some ⟨g, 0, none⟩) n C) n (patch xs o vs)
 | [], o, w, xs, h => h
 | v :: r, o, w, xs, h => row_setCells r (o + 1) _ _ (World.ownsRow.stored h o v).1
theorem only_setCells {S : Nat → Prop} {B g : Nat} {a : World} (hg : S g) : ∀ (vs : List Value) (o : Nat) (w : World), Only S B a w → Only S B a (w.setCells g o vs)
 | [], o, w, h => h
 | v :: r, o, w, h => only_setCells hg r (o + 1) _ (h.setCell (p := ⟨g, o, none⟩) (.inl hg) v)
theorem row_cells {w : World} {B : Nat} {T : TypeId} {s g n C : Nat} {xs : List Value} (h : w.ownsRow B T s (.slice (some ⟨g, 0, none⟩) n C) n xs) {j : Nat} (hj : j < C * s) : (w.cell? ⟨g, j, none⟩).isSome = true ∧ w.frozen? ⟨g, j, none⟩ = false := by
 refine ⟨?_, World.ownsRow.frozenAt h j⟩
 rcases h.2 with ⟨e, -⟩ | ⟨g', cap, cur, e, -, hh, -, -, hs, -⟩
 ·cases e
 ·cases e
  simp only [World.cell?, hh]
  rw [Array.getElem?_eq_getElem (by omega)]
  rfl
theorem patch_del {xs Z : List Value} {n s i : Nat} (hx : xs.length = n * s) (hi : i < n) (hz : Z.length = s) :
  patch (patch xs (i * s) (xs.drop ((i + 1) * s))) ((n - 1) * s) Z = xs.take (i * s) ++ xs.drop ((i + 1) * s) ++ Z := by
 obtain ⟨m, rfl⟩ : ∃ m, n = i + 1 + m := ⟨n - (i + 1), by omega⟩
 have e1 : (i + 1 + m) * s = i * s + s + m * s := by rw [Nat.add_mul, Nat.add_mul]; omega
 have e2 : (i + 1 + m - 1) * s = i * s + m * s := by rw [show i + 1 + m - 1 = i + m by omega, Nat.add_mul]
 have e3 : (i + 1) * s = i * s + s := by rw [Nat.add_mul]; omega
 rw [e1] at hx
 rw [e2, e3]
 have hd : (xs.drop (i * s + s)).length = m * s := by rw [List.length_drop]; omega
 rw [patch_eq (xs.drop (i * s + s)) xs (i * s) (by omega), hd]
 have ht : (xs.take (i * s)).length = i * s := by rw [List.length_take]; omega
 have hd2 : (xs.drop (i * s + m * s)).length = s := by rw [List.length_drop]; omega
 generalize xs.take (i * s) = A at ht ⊢
 generalize xs.drop (i * s + s) = D at hd ⊢
 generalize xs.drop (i * s + m * s) = E at hd2 ⊢
 have hl : (A ++ D).length = i * s + m * s := by rw [List.length_append]; omega
 rw [patch_eq Z (A ++ D ++ E) _ (by rw [List.length_append]; omega), List.take_left' hl, List.drop_eq_nil_of_le (by rw [List.length_append]; omega), List.append_nil]
theorem run_clear_one {P : Program} (w : World) (t e ty : TypeId) (z : Value) (zs : List Value) (ht : P.underlying t = some (.slice e)) (hv : ∀ w, (zeroValue e).run P w = .ok z w) (hz : (Builtin.zeroCells z.cells 1).toList = zs) (h1 : ∀ v, v ∈ zs → v.oneCell' = true) (b o c : Nat)
  (hc : ∀ j, j < zs.length → (w.cell? ⟨b, o + j, none⟩).isSome = true) (hf : ∀ j, j < zs.length → w.frozen? ⟨b, o + j, none⟩ = false) :
  (Builtin.clear_ #[t] ty #[.slice (some ⟨b, o, none⟩) 1 c]).run P w = .ok (.tuple #[]) (w.setCells b o zs) := by
 have hst := run_storeCells_cells (P := P) b o zs 0 w (by simpa using hc) (by simpa using hf) h1
 simp only [Nat.add_zero] at hst
 simp [Builtin.clear_, run_underlying ht, hv, hz, hst]
end Go.Proofs.Ytamjcafjdioidaa

namespace Go.Proofs.Ytamjcafjdioidaa
section
variable {P : Program} {ops : Array Oper} {Q : Exit → Act → World → Prop} {md : Region.Mode} {S : World → Prop} {T : Nat → Bool}
def wpAnyU (P : Program) (md : Region.Mode) (ops : Array Oper) (Q : Exit → Act → World → Prop) (S : World → Prop) (T : Nat → Bool) : Nat → Array Bool → Act → World → Prop
 | 0, listed, a, w => Region.ready md ops listed = [] ∧ Q .normal a w
 | fuel + 1, listed, a, w =>
  (Region.ready md ops listed = [] → Q .normal a w) ∧
  ∀ i ∈ Region.ready md ops listed, wpOp P ops Q i (fun a' w' => (T i = true → S w') ∧ wpAnyU P md ops Q S T fuel (listed.setIfInBounds i true) a' w') a w
theorem wpAny_of_U : ∀ (fuel : Nat) (listed : Array Bool) (a : Act) (w : World), wpAnyU P md ops Q S T fuel listed a w → wpAny P md ops Q fuel listed a w
 | 0, _, _, _, h => h
 | fuel + 1, _, _, _, h => ⟨h.1, fun i hi => wpOp_mono (fun a' w' h' => wpAny_of_U fuel _ a' w' h'.2) (h.2 i hi)⟩
def Closed (md : Region.Mode) (ops : Array Oper) (listed : Array Bool) : Prop := ∀ (k : Nat) ok, ops[k]? = some ok → listed.getD k false = true → ∀ e ∈ ok.after, Region.binds md e = true → listed.getD e.on false = true
theorem Closed.next {listed : Array Bool} {j : Nat} (h : Closed md ops listed) (hj : j ∈ Region.ready md ops listed) : Closed md ops (listed.setIfInBounds j true) := fun k ok hk hl e he hb => by
 by_cases e2 : j = k
 ·subst e2
  obtain ⟨-, oj, hoj, hall⟩ := mem_ready.1 hj
  rw [hk] at hoj
  cases hoj
  exact getD_set_true (hall e he hb)
 ·rw [getD_set_ne false e2] at hl
  exact getD_set_true (h k ok hk hl e he hb)
def tabB (md : Region.Mode) (ops : Array Oper) (i : Nat) : Nat → List Bool
 | 0 => []
 | j + 1 => let t := tabB md ops i j
  t ++ [match ops[j]? with | some oj => oj.after.any (fun e => Region.binds md e && (e.on == i || t.getD e.on false)) | none => false]
theorem tab_len (i : Nat) : ∀ j, (tabB md ops i j).length = j
 | 0 => rfl
 | j + 1 => by
  show (tabB md ops i j ++ [_]).length = _
  rw [List.length_append, tab_len i j]; rfl
theorem tab_wait {listed : Array Bool} {i : Nat} (hc : Closed md ops listed) : ∀ (n j : Nat), (tabB md ops i n).getD j false = true → listed.getD j false = true → listed.getD i false = true
 | 0, j, h, _ => by simp [tabB] at h
 | n + 1, j, h, hl => by
  change (tabB md ops i n ++ [_]).getD j false = true at h
  rw [List.getD_eq_getElem?_getD] at h
  rcases Nat.lt_or_ge j n with h1 | h1
  ·rw [List.getElem?_append_left (by rw [tab_len]; exact h1), ← List.getD_eq_getElem?_getD] at h
   exact tab_wait hc n j h hl
  ·rw [List.getElem?_append_right (by rw [tab_len]; exact h1), tab_len] at h
   rcases Nat.eq_or_lt_of_le h1 with h2 | h2
   ·subst h2
    rw [Nat.sub_self, List.getElem?_cons_zero, Option.getD_some] at h
    cases ho : ops[n]? with
    | none => rw [ho] at h; cases h
    | some oj =>
     rw [ho] at h
     obtain ⟨e, he, hb⟩ := Array.any_eq_true'.1 h
     rw [Bool.and_eq_true, Bool.or_eq_true] at hb
     have h3 := hc n oj ho hl e he hb.1
     rcases hb.2 with h4 | h4
     ·rw [beq_iff_eq] at h4
      rw [← h4]; exact h3
     ·exact tab_wait hc n e.on h4 h3
   ·obtain ⟨m, hm⟩ : ∃ m, j - n = m + 1 := ⟨j - n - 1, by omega⟩
    rw [hm] at h
    simp at h
theorem tab_ready {listed : Array Bool} {i j n : Nat} (hc : Closed md ops listed) (hj : j ∈ Region.ready md ops listed) (h : (tabB md ops i n).getD j false = true) (hne : i ≠ j) : listed.getD i false = true := by
 have h1 := tab_wait (hc.next hj) n j h (by
  obtain ⟨h2, -⟩ := mem_ready.1 hj
  rcases Nat.lt_or_ge j listed.size with h' | h'
  ·simp [h']
  ·simp [Array.getElem?_eq_none h'] at h2)
 rwa [getD_set_ne false (Ne.symm hne)] at h1
theorem wpAnyU_first {i : Nat} {oi : Oper} {v : Value} (hi : ops[i]? = some oi) (hsel : ∀ (j : Nat) (o : Oper) cs b, ops[j]? = some o → o.op ≠ .select cs b)
  (hQ : ∀ c a w, Q (.panic c) (a.put oi.dst v) w → Q (.panic c) a w) :
  ∀ (fuel : Nat) (listed : Array Bool) (a : Act) (w : World), Closed md ops listed → (∀ j, listed.getD j true = false → j ≠ i → T j = true ∨ ∃ n, (tabB md ops i n).getD j false = true) →
   (∀ j oj, ops[j]? = some oj → j ≠ i → listed.getD j true = false → (∀ e ∈ oj.after, Region.binds md e = true → e.on ≠ i) → oi.apart ops oj = true) →
   i ∈ Region.ready md ops listed → YieldsIf P ops S oi v a → S w →
   wpAnyU P md ops Q S T fuel (listed.setIfInBounds i true) (a.put oi.dst v) w → wpAnyU P md ops Q S T (fuel + 1) listed a w := by
 intro fuel
 induction fuel with
 | zero =>
  intro listed a w hc hT _ hr hy hS H
  refine ⟨fun h => (by rw [h] at hr; cases hr), fun j hj => ?_⟩
  by_cases hji : j = i
  ·subst hji; exact hy.wpOp hi hS ⟨fun _ => hS, H⟩
  ·have := ready_mono hj hji
   rw [H.1] at this
   cases this
 | succ fuel ih =>
  intro listed a w hc hT hfree hr hy hS H
  refine ⟨fun h => (by rw [h] at hr; cases hr), fun j hj => ?_⟩
  by_cases hji : j = i
  ·subst hji; exact hy.wpOp hi hS ⟨fun _ => hS, H⟩
  ·have h1 := H.2 j (ready_mono hj hji)
   obtain ⟨hjun, oj, hoj, hall⟩ := mem_ready.1 hj
   have hiun : ¬ listed.getD i false = true := fun h1 => by
    have h0 := (mem_ready.1 hr).1
    rcases Nat.lt_or_ge i listed.size with h' | h'
    ·simp [h'] at h0 h1; rw [h0] at h1; cases h1
    ·simp [Array.getElem?_eq_none h'] at h1
   have hnot : ∀ e ∈ oj.after, Region.binds md e = true → e.on ≠ i := fun e he hb heq => hiun (by rw [← heq]; exact hall e he hb)
   have hTj : T j = true := by
    rcases hT j hjun hji with h2 | ⟨n, h2⟩
    ·exact h2
    ·exact absurd (tab_ready hc hj h2 (Ne.symm hji)) hiun
   have h2 := wpOp_putIf hoj (hfree j oj hoj hji hjun hnot) (fun cs b => hsel i oi cs b hi) (fun cs b => hsel j oj cs b hoj) hQ hy h1
   have hun2 : ∀ k, (listed.setIfInBounds j true).getD k true = false → listed.getD k true = false := fun k hun => by
    by_cases hjk : j = k
    ·subst hjk; exact hjun
    ·rw [getD_set_ne true hjk] at hun; exact hun
   refine wpOp_mono (fun a' w' h3 => ⟨h3.2.1, ih (listed.setIfInBounds j true) a' w' (hc.next hj) (fun k hk hki => hT k (hun2 k hk) hki) (fun k ok hk hki hun hno => hfree k ok hk hki (hun2 k hun) hno) (ready_mono hr (Ne.symm hji)) h3.1 (h3.2.1 hTj) ?_⟩) h2
   rw [Array.setIfInBounds_comm _ _ hji]
   exact h3.2.2
theorem wpAnyU_firstY {i : Nat} {oi : Oper} {v : Value} (hi : ops[i]? = some oi) (hsel : ∀ (j : Nat) (o : Oper) cs b, ops[j]? = some o → o.op ≠ .select cs b)
  (hQ : ∀ c a w, Q (.panic c) (a.put oi.dst v) w → Q (.panic c) a w) (hTi : T i = false) :
  ∀ (fuel : Nat) (listed : Array Bool) (a : Act) (w : World),
   (∀ j oj, ops[j]? = some oj → j ≠ i → listed.getD j true = false → (∀ e ∈ oj.after, Region.binds md e = true → e.on ≠ i) → oi.apart ops oj = true) →
   i ∈ Region.ready md ops listed → YieldsIf P ops (fun _ => True) oi v a →
   wpAnyU P md ops Q S T fuel (listed.setIfInBounds i true) (a.put oi.dst v) w → wpAnyU P md ops Q S T (fuel + 1) listed a w := by
 intro fuel
 induction fuel with
 | zero =>
  intro listed a w _ hr hy H
  refine ⟨fun h => (by rw [h] at hr; cases hr), fun j hj => ?_⟩
  by_cases hji : j = i
  ·subst hji; exact hy.wpOp hi trivial ⟨fun h => (by rw [hTi] at h; cases h), H⟩
  ·have := ready_mono hj hji
   rw [H.1] at this
   cases this
 | succ fuel ih =>
  intro listed a w hfree hr hy H
  refine ⟨fun h => (by rw [h] at hr; cases hr), fun j hj => ?_⟩
  by_cases hji : j = i
  ·subst hji; exact hy.wpOp hi trivial ⟨fun h => (by rw [hTi] at h; cases h), H⟩
  ·have h1 := H.2 j (ready_mono hj hji)
   obtain ⟨hjun, oj, hoj, hall⟩ := mem_ready.1 hj
   have hnot : ∀ e ∈ oj.after, Region.binds md e = true → e.on ≠ i := fun e he hb heq => by
    have h1 := hall e he hb
    have h0 := (mem_ready.1 hr).1
    rw [heq] at h1
    rcases Nat.lt_or_ge i listed.size with h' | h'
    ·simp [h'] at h0 h1; rw [h0] at h1; cases h1
    ·simp [Array.getElem?_eq_none h'] at h1
   have h2 := wpOp_putIf hoj (hfree j oj hoj hji hjun hnot) (fun cs b => hsel i oi cs b hi) (fun cs b => hsel j oj cs b hoj) hQ hy h1
   have hun2 : ∀ k, (listed.setIfInBounds j true).getD k true = false → listed.getD k true = false := fun k hun => by
    by_cases hjk : j = k
    ·subst hjk; exact hjun
    ·rw [getD_set_ne true hjk] at hun; exact hun
   refine wpOp_mono (fun a' w' h3 => ⟨h3.2.1, ih (listed.setIfInBounds j true) a' w' (fun k ok hk hki hun hno => hfree k ok hk hki (hun2 k hun) hno) (ready_mono hr (Ne.symm hji)) h3.1 ?_⟩) h2
   rw [Array.setIfInBounds_comm _ _ hji]
   exact h3.2.2
def waitsB (md : Region.Mode) (ops : Array Oper) (listed : Array Bool) (T : Nat → Bool) (i : Nat) : Bool :=
 let t := tabB md ops i ops.size
 (List.range ops.size).all (fun j => listed.getD j true || T j || j == i || t.getD j false) && (listed.size == ops.size) &&
  (List.range ops.size).all fun k => !listed.getD k false || match ops[k]? with | some ok => ok.after.all (fun e => !Region.binds md e || listed.getD e.on false) | none => true
theorem waits_spec {listed : Array Bool} {i : Nat} (h : waitsB md ops listed T i = true) : Closed md ops listed ∧ ∀ j, listed.getD j true = false → j ≠ i → T j = true ∨ ∃ n, (tabB md ops i n).getD j false = true := by
 unfold waitsB at h
 simp only [Bool.and_eq_true, List.all_eq_true, List.mem_range, beq_iff_eq] at h
 obtain ⟨⟨h1, h2⟩, h3⟩ := h
 refine ⟨fun k ok hk hl e he hb => ?_, fun j hj hne => ?_⟩
 ·have h4 := h3 k (Array.getElem?_eq_some_iff.1 hk).1
  rw [hl, hk] at h4
  simp only [Bool.not_true, Bool.false_or] at h4
  have h5 := Array.all_eq_true'.1 h4 e he
  rw [hb] at h5
  simpa using h5
 ·have hjs : j < ops.size := by
   rw [← h2]
   rcases Nat.lt_or_ge j listed.size with h' | h'
   ·exact h'
   ·simp [Array.getElem?_eq_none h'] at hj
  have h4 := h1 j hjs
  rw [hj] at h4
  simp only [Bool.false_or, Bool.or_eq_true, beq_iff_eq] at h4
  rcases h4 with (h4 | h4) | h4
  ·exact .inl h4
  ·exact absurd h4 hne
  ·exact .inr ⟨_, h4⟩
theorem wpAnyU_take {i : Nat} {oi : Oper} {v : Value} {fuel : Nat} {listed : Array Bool} {a : Act} {w : World} (hi : ops[i]? = some oi)
  (hs : Region.noSelect ops = true) (hf : Region.free md ops listed i = true) (hr : (Region.ready md ops listed).contains i = true) (hT : waitsB md ops listed T i = true)
  (hQ : ∀ c a w, Q (.panic c) (a.put oi.dst v) w → Q (.panic c) a w) (hy : YieldsIf P ops S oi v a) (hS : S w)
  (h : wpAnyU P md ops Q S T fuel (listed.setIfInBounds i true) (a.put oi.dst v) w) : wpAnyU P md ops Q S T (fuel + 1) listed a w :=
 wpAnyU_first hi (Region.noSelect_spec hs) hQ fuel listed a w (waits_spec hT).1 (waits_spec hT).2 (Region.free_spec hi hf) (by simpa using hr) hy hS h
theorem wpAnyU_takeY {i : Nat} {oi : Oper} {v : Value} {fuel : Nat} {listed : Array Bool} {a : Act} {w : World} (hi : ops[i]? = some oi)
  (hs : Region.noSelect ops = true) (hf : Region.free md ops listed i = true) (hr : (Region.ready md ops listed).contains i = true) (hT : T i = false)
  (hQ : ∀ c a w, Q (.panic c) (a.put oi.dst v) w → Q (.panic c) a w) (hy : YieldsIf P ops (fun _ => True) oi v a)
  (h : wpAnyU P md ops Q S T fuel (listed.setIfInBounds i true) (a.put oi.dst v) w) : wpAnyU P md ops Q S T (fuel + 1) listed a w :=
 wpAnyU_firstY hi (Region.noSelect_spec hs) hQ hT fuel listed a w (Region.free_spec hi hf) (by simpa using hr) hy h
def AllReadyU (P : Program) (md : Region.Mode) (ops : Array Oper) (Q : Exit → Act → World → Prop) (S : World → Prop) (T : Nat → Bool) (fuel : Nat) (listed : Array Bool) (a : Act) (w : World) (rs : List Nat) : Prop :=
 ∀ i ∈ rs, wpOp P ops Q i (fun a' w' => (T i = true → S w') ∧ wpAnyU P md ops Q S T fuel (listed.setIfInBounds i true) a' w') a w
theorem AllReadyU.nil {fuel : Nat} {listed : Array Bool} {a : Act} {w : World} : AllReadyU P md ops Q S T fuel listed a w [] := fun _ h => by cases h
theorem AllReadyU.cons {fuel : Nat} {listed : Array Bool} {a : Act} {w : World} {i : Nat} {o : Oper} {rs : List Nat} (ho : ops[i]? = some o)
  (h : ∀ K' : Act → World → Prop, Shut (∀ a w, (T i = true → S w) → wpAnyU P md ops Q S T fuel (listed.setIfInBounds i true) a w → K' a w) → if Region.wanted o (yielded ops a.tmps) = true then Oper.wp P o a w K' Q else K' (a.put o.dst undef) w)
  (hs : AllReadyU P md ops Q S T fuel listed a w rs) : AllReadyU P md ops Q S T fuel listed a w (i :: rs) := fun j hj => by
 rcases List.mem_cons.1 hj with rfl | hj
 ·exact wpOp_step ho (fun K' hK => h K' (fun a w hS hW => hK a w ⟨hS, hW⟩))
 ·exact hs j hj
theorem wpAnyU_ready {rs : List Nat} {fuel : Nat} {listed : Array Bool} {a : Act} {w : World} (hr : Region.ready md ops listed = rs) (hne : rs ≠ [])
  (h : AllReadyU P md ops Q S T fuel listed a w rs) : wpAnyU P md ops Q S T (fuel + 1) listed a w :=
 ⟨fun h0 => absurd (hr ▸ h0) hne, hr ▸ h⟩
theorem wpAnyU_done {listed : Array Bool} {a : Act} {w : World} (hr : Region.ready md ops listed = []) (h : Q .normal a w) :
  ∀ fuel, wpAnyU P md ops Q S T fuel listed a w
 | 0 => ⟨hr, h⟩
 | _ + 1 => ⟨fun _ => h, by rw [hr]; simp⟩
theorem wp_region_U {id : Nat} {a : Act} {w : World} (hm : P.follows .mixedOrders = true)
  (h : wpAnyU P .any ops Q S T ops.size (Array.replicate ops.size false) a w.drew) : (Code.region id ops true).wp P Q a w :=
 wp_region_any hm (wpAny_of_U _ _ _ _ h)
end
end Go.Proofs.Ytamjcafjdioidaa
