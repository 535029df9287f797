/- Texts of the chain, without what is not wanted: Mt. No condition but sizes. -/
import Derived.WalkKit
import Derived.Deep.Slices
import Derived.Deep.Draws
import Derived.ChangeSame
import Derived.ChangeOld
import Derived.OwnWalk
import Derived.Laws.OwnMore
import Derived.Deep.AppendLies
import Derived.Test.YtamjcafjdioidaaRows
import Derived.ProofKit
import Derived.OpenShut
import Derived.JoinedCond
import Derived.WalkSpells
import Derived.WalkLawsBesides
import Derived.Deep.RegionHeld3
import Derived.Deep.LoopGhost
import Derived.Deep.QuietTactic
import Derived.BigQuiet
import Derived.Test.YtamjcafjdioidaaUz01
import Derived.Test.YtamjcafjdioidaaUz02
namespace Go.Proofs.Ytamjcafjdioidaa
open Go.RowKit
set_option linter.unusedVariables false
theorem nd_iff {vs : List Value} : Nd vs ↔ ∀ (i j : Nat) u v k, vs[i]? = some u → vs[j]? = some v → u.ownBlock = some k → v.ownBlock = some k → i = j := by
 constructor
 ·intro h i j u v k hi hj hu hv
  by_cases e : i = j
  ·exact e
  ·exact absurd hv (nd_ne h hi hj e hu)
 ·induction vs with
  | nil => intro _; exact nd_nil
  | cons a vs ih =>
   intro h
   have h1 : Nd vs := ih fun i j u v k hi hj hu hv => by
    have := h (i + 1) (j + 1) u v k (by simpa using hi) (by simpa using hj) hu hv
    omega
   unfold Nd at h1 ⊢
   rw [List.filterMap_cons]
   cases hk : a.ownBlock with
   | none => exact h1
   | some k =>
    refine List.nodup_cons.2 ⟨fun hm => ?_, h1⟩
    obtain ⟨v, hv, hvk⟩ := mem_own.1 hm
    obtain ⟨j, hj⟩ := List.mem_iff_getElem?.1 hv
    have := h 0 (j + 1) a v k rfl (by simpa using hj) hk hvk
    omega
theorem nd_set {vs : List Value} {b : Nat} {x v : Value} (h : Nd vs) (hx : vs[b]? = some x) (hv : ∀ k, v.ownBlock = some k → x.ownBlock = some k ∨ ∀ y, y ∈ vs → y.ownBlock ≠ some k) : Nd (vs.set b v) := by
 rw [nd_iff] at h ⊢
 intro i j u u' k hi hj hu hu'
 have key : ∀ (i j : Nat) u u', (vs.set b v)[i]? = some u → (vs.set b v)[j]? = some u' → u.ownBlock = some k → u'.ownBlock = some k → i = b → i = j := by
  intro i j u u' hi hj hu hu' e
  subst e
  by_cases e2 : j = i
  ·exact e2.symm
  ·have hlt := (List.getElem?_eq_some_iff.1 hx).1
   rw [List.getElem?_set_self hlt] at hi
   rw [List.getElem?_set_ne (Ne.symm e2)] at hj
   cases hi
   rcases hv k hu with h1 | h1
   ·exact h i j x u' k hx hj h1 hu'
   ·exact absurd hu' (h1 u' (List.mem_of_getElem? hj))
 by_cases e : i = b
 ·exact key i j u u' hi hj hu hu' e
 ·by_cases e2 : j = b
  ·exact (key j i u' u hj hi hu' hu e2).symm
  ·rw [List.getElem?_set_ne (Ne.symm e)] at hi
   rw [List.getElem?_set_ne (Ne.symm e2)] at hj
   exact h i j u u' k hi hj hu hu'
def Nd2 {α : Type} (f : α → Value) (ess : List (List α)) : Prop := (∀ (i : Nat) a, ess[i]? = some a → Nd (a.map f)) ∧ ∀ (i j : Nat) a b e e' k, i ≠ j → ess[i]? = some a → ess[j]? = some b → e ∈ a → e' ∈ b → (f e).ownBlock = some k → (f e').ownBlock ≠ some k
theorem nd_app {a b : List Value} (h : Nd (a ++ b)) : Nd a ∧ Nd b ∧ ∀ u, u ∈ a → ∀ v, v ∈ b → ∀ k, u.ownBlock = some k → v.ownBlock ≠ some k := by
 unfold Nd at h
 rw [List.filterMap_append, List.nodup_append] at h
 exact ⟨h.1, h.2.1, fun u hu v hv k h1 h2 => h.2.2 k (mem_own.2 ⟨u, hu, h1⟩) k (mem_own.2 ⟨v, hv, h2⟩) rfl⟩
theorem nd2_iff {α : Type} {f : α → Value} : ∀ {ess : List (List α)}, Nd (ess.flatten.map f) ↔ Nd2 f ess
 | [] => ⟨fun _ => ⟨fun i a h => by simp at h, fun i j a b e e' k _ h => by simp at h⟩, fun _ => nd_nil⟩
 | x :: ess => by
  rw [List.flatten_cons, List.map_append]
  constructor
  ·intro h
   obtain ⟨h1, h2, h3⟩ := nd_app h
   obtain ⟨g1, g2⟩ := nd2_iff.1 h2
   have key : ∀ (j : Nat) b e e' k, ess[j]? = some b → e ∈ x → e' ∈ b → (f e).ownBlock = some k → (f e').ownBlock ≠ some k := fun j b e e' k hj he he' hk =>
    h3 (f e) (List.mem_map_of_mem he) (f e') (List.mem_map_of_mem (List.mem_flatten.2 ⟨b, List.mem_of_getElem? hj, he'⟩)) k hk
   refine ⟨fun i a hi => ?_, fun i j a b e e' k hij hi hj he he' hk => ?_⟩
   ·cases i with
    | zero => cases hi; exact h1
    | succ i => exact g1 i a (by simpa using hi)
   ·cases i with
    | zero =>
     cases j with
     | zero => exact absurd rfl hij
     | succ j => cases hi; exact key j b e e' k (by simpa using hj) he he' hk
    | succ i =>
     cases j with
     | zero => cases hj; exact fun hk' => key i a e' e k (by simpa using hi) he' he hk' hk
     | succ j => exact g2 i j a b e e' k (by omega) (by simpa using hi) (by simpa using hj) he he' hk
  ·rintro ⟨g1, g2⟩
   refine nd_append (g1 0 x rfl) (nd2_iff.2 ⟨fun i a hi => g1 (i + 1) a (by simpa using hi), fun i j a b e e' k hij hi hj => g2 (i + 1) (j + 1) a b e e' k (by omega) (by simpa using hi) (by simpa using hj)⟩) ?_
   intro u hu v hv k h1
   obtain ⟨e, he, rfl⟩ := List.mem_map.1 hu
   obtain ⟨e', he', rfl⟩ := List.mem_map.1 hv
   obtain ⟨b, hb, he'⟩ := List.mem_flatten.1 he'
   obtain ⟨j, hj⟩ := List.mem_iff_getElem?.1 hb
   exact g2 0 (j + 1) x b e e' k (by omega) rfl (by simpa using hj) he he' h1
theorem nd2_set {α : Type} {f : α → Value} {ess : List (List α)} {b : Nat} {es es' : List α} {H : Nat} (h : Nd2 f ess) (he : ess[b]? = some es) (h1 : Nd (es'.map f)) (hH : ∀ (i : Nat) a e k, ess[i]? = some a → e ∈ a → (f e).ownBlock = some k → k < H)
  (h2 : ∀ e k, e ∈ es' → (f e).ownBlock = some k → (∃ e0, e0 ∈ es ∧ (f e0).ownBlock = some k) ∨ H ≤ k) : Nd2 f (ess.set b es') := by
 obtain ⟨g1, g2⟩ := h
 have hlt := (List.getElem?_eq_some_iff.1 he).1
 have key : ∀ (j : Nat) c e e' k, j ≠ b → ess[j]? = some c → e ∈ es' → e' ∈ c → (f e).ownBlock = some k → (f e').ownBlock ≠ some k := fun j c e e' k hj hc hee hec hk hk' => by
  rcases h2 e k hee hk with ⟨e0, h3, h4⟩ | h3
  ·exact g2 b j es c e0 e' k (Ne.symm hj) he hc h3 hec h4 hk'
  ·have := hH j c e' k hc hec hk'
   omega
 refine ⟨fun i a hi => ?_, fun i j a c e e' k hij hi hj hea hec hk => ?_⟩
 ·by_cases e : i = b
  ·subst e
   rw [List.getElem?_set_self hlt] at hi
   cases hi
   exact h1
  ·rw [List.getElem?_set_ne (Ne.symm e)] at hi
   exact g1 i a hi
 ·by_cases e1 : i = b
  ·subst e1
   rw [List.getElem?_set_self hlt] at hi
   rw [List.getElem?_set_ne hij] at hj
   cases hi
   exact key j c e e' k (Ne.symm hij) hj hea hec hk
  ·rw [List.getElem?_set_ne (Ne.symm e1)] at hi
   by_cases e2 : j = b
   ·subst e2
    rw [List.getElem?_set_self hlt] at hj
    cases hj
    exact fun hk' => key i a e' e k e1 hi hec hea hk' hk
   ·rw [List.getElem?_set_ne (Ne.symm e2)] at hj
    exact g2 i j a c e e' k hij hi hj hea hec hk
section
variable {w w' : World} {L : Nat} {d : Value} {bs : List (List Ins)} {xs : List Value} {ess : List (List (Value × Value))}
theorem OwnKd.row_at (h : OwnKd w L d bs xs ess) {b : Nat} {l : List Ins} (hb : bs[b]? = some l) : ∃ x es, xs[b]? = some x ∧ ess[b]? = some es ∧ OwnCd w L x l es := by
 have h1 := (List.getElem?_eq_some_iff.1 hb).1
 have h2 := h.lenx
 have h3 := h.lene
 exact ⟨xs[b]'(by omega), ess[b]'(by omega), List.getElem?_eq_getElem _, List.getElem?_eq_getElem _, h.inn b _ l _ (List.getElem?_eq_getElem _) hb (List.getElem?_eq_getElem _)⟩
theorem OwnCd.ins_at {x : Value} {l : List Ins} {es : List (Value × Value)} (h : OwnCd w L x l es) {i : Nat} {ins : Ins} (hi : l[i]? = some ins) : ∃ c t, es[i]? = some (c, t) ∧ OwnV w L c ins.args ∧ OwnI w L t ins.to ∧ InsOk ins := by
 have h1 := (List.getElem?_eq_some_iff.1 hi).1
 have h2 := h.len
 have h3 : es[i]? = some (es[i]'(by omega)) := List.getElem?_eq_getElem _
 obtain ⟨g1, g2, g3⟩ := h.inn i ins _ hi h3
 exact ⟨_, _, h3, g1, g2, g3⟩
theorem cellsOf_get : ∀ (l : List Ins) (es : List (Value × Value)) (m : Nat), (cellsOf l es)[m]? = (l[m / 7]?).bind fun x => (es[m / 7]?).bind fun e => (insC x e.1 e.2)[m % 7]?
 | [], es, m => by simp [cellsOf]
 | x :: l, [], m => by simp [cellsOf]
 | x :: l, e :: es, m => by
  have h0 : cellsOf (x :: l) (e :: es) = insC x e.1 e.2 ++ cellsOf l es := by simp [cellsOf]
  have h7 : (insC x e.1 e.2).length = 7 := rfl
  rw [h0]
  by_cases hm : m < 7
  ·rw [List.getElem?_append_left (by omega), show m / 7 = 0 by omega, show m % 7 = m by omega]
   rfl
  ·obtain ⟨q, rfl⟩ : ∃ q, m = q + 7 := ⟨m - 7, by omega⟩
   rw [List.getElem?_append_right (by omega), h7, Nat.add_sub_cancel, cellsOf_get l es q, show (q + 7) / 7 = q / 7 + 1 by omega, show (q + 7) % 7 = q % 7 by omega, List.getElem?_cons_succ, List.getElem?_cons_succ]
theorem OwnCd.cell_at {gc n C : Nat} {l : List Ins} {es : List (Value × Value)} (h : OwnCd w L (.slice (some ⟨gc, 0, none⟩) n C) l es) {i : Nat} {ins : Ins} {c t : Value} (hi : l[i]? = some ins) (he : es[i]? = some (c, t)) {j : Nat} {u : Value} (hu : (insC ins c t)[j]? = some u) : w.cell? ⟨gc, i * 7 + j, none⟩ = some u := by
 have h1 := (List.getElem?_eq_some_iff.1 hi).1
 have h7 : j < 7 := (List.getElem?_eq_some_iff.1 hu).1
 have hn : n = l.length := by
  rcases h.row.2 with ⟨e, _⟩ | ⟨g, cap, cur, e, _⟩
  ·cases e
  ·cases e; rfl
 subst hn
 rw [World.ownsRow.cellAt h.row (i * 7 + j) (by omega), cellsOf_get, show (i * 7 + j) / 7 = i by omega, show (i * 7 + j) % 7 = j by omega, hi, he]
 exact hu
theorem OwnKd.put (h : OwnKd w L d bs xs ess) {b : Nat} {l l' : List Ins} {x v' : Value} {es es' : List (Value × Value)} (hb : bs[b]? = some l) (hx : xs[b]? = some x) (he : ess[b]? = some es) (hcode : OwnCd w' L v' l' es')
  (hkeep : ∀ k, k < w.heap.size → x.ownBlock ≠ some k → d.ownBlock ≠ some k → (∀ e, e ∈ es → e.1.ownBlock ≠ some k ∧ e.2.ownBlock ≠ some k) → w'.heap[k]? = w.heap[k]?)
  (hd : w'.ownsRow L 36 1 d bs.length (xs.set b v')) (hv : ∀ k, v'.ownBlock = some k → x.ownBlock = some k ∨ w.heap.size ≤ k)
  (hes : ∀ e k, e ∈ es' → (e.1.ownBlock = some k → (∃ e0, e0 ∈ es ∧ e0.1.ownBlock = some k) ∨ w.heap.size ≤ k) ∧ (e.2.ownBlock = some k → (∃ e0, e0 ∈ es ∧ e0.2.ownBlock = some k) ∨ w.heap.size ≤ k)) :
  OwnKd w' L d (bs.set b l') (xs.set b v') (ess.set b es') := by
 have hlt : b < bs.length := (List.getElem?_eq_some_iff.1 hb).1
 have hlx := h.lenx
 have hle := h.lene
 have hxb : ∀ y k, y ∈ xs → y.ownBlock = some k → k < w.heap.size ∧ ∃ c, w.heap[k]? = some (.cells c 39 (0, 0)) := fun y k hy hk => by
  obtain ⟨i, hi⟩ := List.mem_iff_getElem?.1 hy
  have h1 := (List.getElem?_eq_some_iff.1 hi).1
  have h2 := h.inn i y _ _ hi (List.getElem?_eq_getElem (by omega)) (List.getElem?_eq_getElem (by omega))
  exact (row_lt h2.row hk).2
 have hin : ∀ (i : Nat) a e k, ess[i]? = some a → e ∈ a → (e.1.ownBlock = some k → k < w.heap.size ∧ ∃ c, w.heap[k]? = some (.cells c 42 (0, 0))) ∧ (e.2.ownBlock = some k → k < w.heap.size ∧ ∃ c, w.heap[k]? = some (.cells c 3 (0, 0))) := fun i a e k hi hea => by
  have h1 := (List.getElem?_eq_some_iff.1 hi).1
  have h2 := h.inn i _ _ a (List.getElem?_eq_getElem (by omega)) (List.getElem?_eq_getElem (by omega)) hi
  obtain ⟨j, hj⟩ := List.mem_iff_getElem?.1 hea
  have h3 := (List.getElem?_eq_some_iff.1 hj).1
  have h4 := h2.len
  obtain ⟨g1, g2, -⟩ := h2.inn j _ e (List.getElem?_eq_getElem (by omega)) hj
  exact ⟨fun hk => (row_lt g1.row hk).2, fun hk => (row_lt g2.row hk).2⟩
 have hdb : ∀ k, d.ownBlock = some k → ∃ c, w.heap[k]? = some (.cells c 36 (0, 0)) := fun k hk => (row_lt h.row hk).2.2
 have tne : ∀ {k : Nat} {c c' : Array Value} {T T' : TypeId}, w.heap[k]? = some (.cells c T (0, 0)) → w.heap[k]? = some (.cells c' T' (0, 0)) → T = T' := fun h1 h2 => by
  rw [h1] at h2
  cases h2
  rfl
 refine ⟨by rw [List.length_set]; exact hd, by simp [hle], fun i y m a hy hm ha => ?_, ?_, ?_, ?_⟩
 ·by_cases e : i = b
  ·subst e
   rw [List.getElem?_set_self (by omega)] at hy hm ha
   cases hy; cases hm; cases ha
   exact hcode
  ·rw [List.getElem?_set_ne (Ne.symm e)] at hy hm ha
   have h1 := h.inn i y m a hy hm ha
   have hnd := nd2_iff.1 h.nda
   have hnt := nd2_iff.1 h.ndt
   refine ⟨h1.len, row_kept h1.row fun k hk => ?_, fun j z ee hz hee => ?_, h1.nda, h1.ndt⟩
   ·obtain ⟨-, h2, c, hc⟩ := row_lt h1.row hk
    refine hkeep k h2 (fun hk' => nd_ne h.ndx hx hy (Ne.symm e) hk' hk) (fun hk' => ?_) (fun e0 he0 => ⟨fun hk' => ?_, fun hk' => ?_⟩)
    ·obtain ⟨c', hc'⟩ := hdb k hk'
     exact absurd (tne hc hc') (by decide)
    ·obtain ⟨c', hc'⟩ := ((hin b es e0 k he he0).1 hk').2
     exact absurd (tne hc hc') (by decide)
    ·obtain ⟨c', hc'⟩ := ((hin b es e0 k he he0).2 hk').2
     exact absurd (tne hc hc') (by decide)
   ·obtain ⟨g1, g2, g3⟩ := h1.inn j z ee hz hee
    refine ⟨⟨row_kept g1.row fun k hk => ?_, g1.ok⟩, ⟨row_kept g2.row fun k hk => ?_, g2.ok⟩, g3⟩
    ·obtain ⟨-, h2, c, hc⟩ := row_lt g1.row hk
     refine hkeep k h2 (fun hk' => ?_) (fun hk' => ?_) (fun e0 he0 => ⟨fun hk' => ?_, fun hk' => ?_⟩)
     ·obtain ⟨c', hc'⟩ := (hxb x k (List.mem_of_getElem? hx) hk').2
      exact absurd (tne hc hc') (by decide)
     ·obtain ⟨c', hc'⟩ := hdb k hk'
      exact absurd (tne hc hc') (by decide)
     ·exact hnd.2 i b a es ee e0 k e ha he (List.mem_of_getElem? hee) he0 hk hk'
     ·obtain ⟨c', hc'⟩ := ((hin b es e0 k he he0).2 hk').2
      exact absurd (tne hc hc') (by decide)
    ·obtain ⟨-, h2, c, hc⟩ := row_lt g2.row hk
     refine hkeep k h2 (fun hk' => ?_) (fun hk' => ?_) (fun e0 he0 => ⟨fun hk' => ?_, fun hk' => ?_⟩)
     ·obtain ⟨c', hc'⟩ := (hxb x k (List.mem_of_getElem? hx) hk').2
      exact absurd (tne hc hc') (by decide)
     ·obtain ⟨c', hc'⟩ := hdb k hk'
      exact absurd (tne hc hc') (by decide)
     ·obtain ⟨c', hc'⟩ := ((hin b es e0 k he he0).1 hk').2
      exact absurd (tne hc hc') (by decide)
     ·exact hnt.2 i b a es ee e0 k e ha he (List.mem_of_getElem? hee) he0 hk hk'
 ·refine nd_set h.ndx hx fun k hk => ?_
  rcases hv k hk with h1 | h1
  ·exact .inl h1
  ·exact .inr fun y hy hk' => by have := (hxb y k hy hk').1; omega
 ·refine nd2_iff.2 (nd2_set (H := w.heap.size) (nd2_iff.1 h.nda) he hcode.nda (fun i a e k hi hea hk => ((hin i a e k hi hea).1 hk).1) fun e k hee hk => (hes e k hee).1 hk)
 ·refine nd2_iff.2 (nd2_set (H := w.heap.size) (nd2_iff.1 h.ndt) he hcode.ndt (fun i a e k hi hea hk => ((hin i a e k hi hea).2 hk).1) fun e k hee hk => (hes e k hee).2 hk)
theorem set_self {α : Type} {l : List α} {b : Nat} {x : α} (h : l[b]? = some x) : l.set b x = l := by
 apply List.ext_getElem?
 intro i
 by_cases e : b = i
 ·subst e
  rw [List.getElem?_set_self (List.getElem?_eq_some_iff.1 h).1, h]
 ·rw [List.getElem?_set_ne e]
theorem cellsOf_length : ∀ {l : List Ins} {es : List (Value × Value)}, es.length = l.length → (cellsOf l es).length = l.length * 7
 | [], [], _ => rfl
 | x :: l, e :: es, h => by
  have h0 : cellsOf (x :: l) (e :: es) = insC x e.1 e.2 ++ cellsOf l es := by simp [cellsOf]
  have h7 : (insC x e.1 e.2).length = 7 := rfl
  rw [h0, List.length_append, cellsOf_length (l := l) (es := es) (by simpa using h), h7, List.length_cons]
  omega
theorem cells_set {l : List Ins} {es : List (Value × Value)} {i j : Nat} {x x' : Ins} {e e' : Value × Value} {u : Value} (hl : l[i]? = some x) (he : es[i]? = some e) (hlen : es.length = l.length) (hj : j < 7)
  (hu : (insC x e.1 e.2).set j u = insC x' e'.1 e'.2) : (cellsOf l es).set (i * 7 + j) u = cellsOf (l.set i x') (es.set i e') := by
 have hi := (List.getElem?_eq_some_iff.1 hl).1
 apply List.ext_getElem?
 intro m
 rw [List.getElem?_set, cellsOf_length hlen, cellsOf_get, cellsOf_get]
 by_cases hm : m / 7 = i
 ·subst hm
  rw [List.getElem?_set_self hi, List.getElem?_set_self (by omega), hl, he]
  show _ = (insC x' e'.1 e'.2)[m % 7]?
  rw [← hu, List.getElem?_set]
  have h7 : (insC x e.1 e.2).length = 7 := rfl
  rw [h7]
  by_cases hr : m % 7 = j
  ·rw [if_pos (by omega), if_pos (by omega), if_pos hr.symm, if_pos (by omega)]
  ·rw [if_neg (by omega), if_neg (fun e => hr e.symm)]
   rfl
 ·rw [if_neg (by omega), List.getElem?_set_ne (fun e => hm e.symm), List.getElem?_set_ne (fun e => hm e.symm)]
theorem cells_set7 {l : List Ins} {es : List (Value × Value)} {i : Nat} {x x' : Ins} {e : Value × Value} {c t : Value} (hl : l[i]? = some x) (he : es[i]? = some e) (hlen : es.length = l.length) :
  ((((((((cellsOf l es).set (i * 7) (.int .i64 x'.op)).set (i * 7 + 1) (.int .i64 x'.reg)).set (i * 7 + 2) (.int .i64 x'.ty)).set (i * 7 + 3) (.int .i64 x'.num)).set (i * 7 + 4) (.int .i64 x'.flags)).set (i * 7 + 5) c).set (i * 7 + 6) t) = cellsOf (l.set i x') (es.set i (c, t)) := by
 have hi := (List.getElem?_eq_some_iff.1 hl).1
 have a0 := cells_set (j := 0) (x' := { x with op := x'.op }) (e' := e) (u := .int .i64 x'.op) hl he hlen (by omega) rfl
 have a1 := cells_set (i := i) (j := 1) (l := l.set i { x with op := x'.op }) (es := es.set i e) (x := { x with op := x'.op }) (e := e) (x' := { x with op := x'.op, reg := x'.reg }) (e' := e) (u := .int .i64 x'.reg) (by rw [List.getElem?_set_self hi]) (by rw [List.getElem?_set_self (by omega)]) (by simp [hlen]) (by omega) rfl
 have a2 := cells_set (i := i) (j := 2) (l := l.set i { x with op := x'.op, reg := x'.reg }) (es := es.set i e) (x := { x with op := x'.op, reg := x'.reg }) (e := e) (x' := { x with op := x'.op, reg := x'.reg, ty := x'.ty }) (e' := e) (u := .int .i64 x'.ty) (by rw [List.getElem?_set_self hi]) (by rw [List.getElem?_set_self (by omega)]) (by simp [hlen]) (by omega) rfl
 have a3 := cells_set (i := i) (j := 3) (l := l.set i { x with op := x'.op, reg := x'.reg, ty := x'.ty }) (es := es.set i e) (x := { x with op := x'.op, reg := x'.reg, ty := x'.ty }) (e := e) (x' := { x with op := x'.op, reg := x'.reg, ty := x'.ty, num := x'.num }) (e' := e) (u := .int .i64 x'.num) (by rw [List.getElem?_set_self hi]) (by rw [List.getElem?_set_self (by omega)]) (by simp [hlen]) (by omega) rfl
 have a4 := cells_set (i := i) (j := 4) (l := l.set i { x with op := x'.op, reg := x'.reg, ty := x'.ty, num := x'.num }) (es := es.set i e) (x := { x with op := x'.op, reg := x'.reg, ty := x'.ty, num := x'.num }) (e := e) (x' := { x with op := x'.op, reg := x'.reg, ty := x'.ty, num := x'.num, flags := x'.flags }) (e' := e) (u := .int .i64 x'.flags) (by rw [List.getElem?_set_self hi]) (by rw [List.getElem?_set_self (by omega)]) (by simp [hlen]) (by omega) rfl
 have a5 := cells_set (i := i) (j := 5) (l := l.set i { x with op := x'.op, reg := x'.reg, ty := x'.ty, num := x'.num, flags := x'.flags }) (es := es.set i e) (x := { x with op := x'.op, reg := x'.reg, ty := x'.ty, num := x'.num, flags := x'.flags }) (e := e) (x' := { x with op := x'.op, reg := x'.reg, ty := x'.ty, num := x'.num, flags := x'.flags }) (e' := (c, e.2)) (u := c) (by rw [List.getElem?_set_self hi]) (by rw [List.getElem?_set_self (by omega)]) (by simp [hlen]) (by omega) rfl
 have a6 := cells_set (i := i) (j := 6) (l := l.set i { x with op := x'.op, reg := x'.reg, ty := x'.ty, num := x'.num, flags := x'.flags }) (es := es.set i (c, e.2)) (x := { x with op := x'.op, reg := x'.reg, ty := x'.ty, num := x'.num, flags := x'.flags }) (e := (c, e.2)) (x' := x') (e' := (c, t)) (u := t) (by rw [List.getElem?_set_self hi]) (by rw [List.getElem?_set_self (by omega)]) (by simp [hlen]) (by omega) rfl
 simp only [List.set_set] at a1 a2 a3 a4 a5 a6
 rw [show i * 7 = i * 7 + 0 from rfl, a0, a1, a2, a3, a4, a5, a6]
section
variable {w w' : World} {L : Nat} {d : Value} {bs : List (List Ins)} {xs : List Value} {ess : List (List (Value × Value))}
theorem OwnKd.put_ins (h : OwnKd w L d bs xs ess) {b i gc n C : Nat} {l : List Ins} {es : List (Value × Value)} {ins ins' : Ins} {c t c' t' : Value} (hb : bs[b]? = some l) (hx : xs[b]? = some (.slice (some ⟨gc, 0, none⟩) n C)) (he : ess[b]? = some es)
  (hi : l[i]? = some ins) (hei : es[i]? = some (c, t)) (hrow : w'.ownsRow L 39 7 (.slice (some ⟨gc, 0, none⟩) n C) n (cellsOf (l.set i ins') (es.set i (c', t')))) (hV : OwnV w' L c' ins'.args) (hI : OwnI w' L t' ins'.to) (hok : InsOk ins')
  (hc : ∀ k, c'.ownBlock = some k → c.ownBlock = some k ∨ w.heap.size ≤ k) (ht : ∀ k, t'.ownBlock = some k → t.ownBlock = some k ∨ w.heap.size ≤ k)
  (hkeep : ∀ k, k < w.heap.size → k ≠ gc → c.ownBlock ≠ some k → t.ownBlock ≠ some k → w'.heap[k]? = w.heap[k]?) : OwnKd w' L d (bs.set b (l.set i ins')) xs (ess.set b (es.set i (c', t'))) := by
 have hcd := h.inn b _ l es hx hb he
 have hlt := (List.getElem?_eq_some_iff.1 hi).1
 have hlen := hcd.len
 have hn : n = l.length := by
  rcases hcd.row.2 with ⟨e, _⟩ | ⟨g, cap, cur, e, _⟩
  ·cases e
  ·cases e; rfl
 have hcin : (c, t) ∈ es := List.mem_of_getElem? hei
 obtain ⟨hcV, hcI, -⟩ := hcd.inn i ins (c, t) hi hei
 have hrow' := hcd.row
 have tyne : ∀ {k : Nat} {T T' : TypeId}, (∃ a, w.heap[k]? = some (.cells a T (0, 0))) → (∃ a, w.heap[k]? = some (.cells a T' (0, 0))) → T = T' := fun ⟨a, h1⟩ ⟨b, h2⟩ => by
  rw [h1] at h2
  cases h2
  rfl
 have hgc := (row_lt hrow' rfl).2.2
 have hcode : OwnCd w' L (.slice (some ⟨gc, 0, none⟩) n C) (l.set i ins') (es.set i (c', t')) := by
  refine ⟨by simp [hlen], by rw [List.length_set, ← hn]; exact hrow, fun j x e hxj hej => ?_, ?_, ?_⟩
  ·by_cases e1 : j = i
   ·subst e1
    rw [List.getElem?_set_self hlt] at hxj
    rw [List.getElem?_set_self (by omega)] at hej
    cases hxj; cases hej
    exact ⟨hV, hI, hok⟩
   ·rw [List.getElem?_set_ne (Ne.symm e1)] at hxj hej
    obtain ⟨g1, g2, g3⟩ := hcd.inn j x e hxj hej
    refine ⟨⟨row_kept g1.row fun k hk => ?_, g1.ok⟩, ⟨row_kept g2.row fun k hk => ?_, g2.ok⟩, g3⟩
    ·obtain ⟨-, h2, hc2⟩ := row_lt g1.row hk
     refine hkeep k h2 (fun e2 => ?_) (fun hk' => ?_) (fun hk' => ?_)
     ·subst e2
      exact absurd (tyne hgc hc2) (by decide)
     ·exact nd_ne hcd.nda (i := j) (j := i) (u := e.1) (v := c) (by rw [List.getElem?_map, hej]; rfl) (by rw [List.getElem?_map, hei]; rfl) e1 hk hk'
     ·exact absurd (tyne hc2 (row_lt hcI.row hk').2.2) (by decide)
    ·obtain ⟨-, h2, hc2⟩ := row_lt g2.row hk
     refine hkeep k h2 (fun e2 => ?_) (fun hk' => ?_) (fun hk' => ?_)
     ·subst e2
      exact absurd (tyne hgc hc2) (by decide)
     ·exact absurd (tyne hc2 (row_lt hcV.row hk').2.2) (by decide)
     ·exact nd_ne hcd.ndt (i := j) (j := i) (u := e.2) (v := t) (by rw [List.getElem?_map, hej]; rfl) (by rw [List.getElem?_map, hei]; rfl) e1 hk hk'
  ·rw [List.map_set]
   refine nd_set hcd.nda (x := c) (by rw [List.getElem?_map, hei]; rfl) fun k hk => ?_
   rcases hc k hk with h1 | h1
   ·exact .inl h1
   ·refine .inr fun y hy hk' => ?_
    obtain ⟨e, he2, rfl⟩ := List.mem_map.1 hy
    have := (hcd.own_at he2 k).1 hk'
    omega
  ·rw [List.map_set]
   refine nd_set hcd.ndt (x := t) (by rw [List.getElem?_map, hei]; rfl) fun k hk => ?_
   rcases ht k hk with h1 | h1
   ·exact .inl h1
   ·refine .inr fun y hy hk' => ?_
    obtain ⟨e, he2, rfl⟩ := List.mem_map.1 hy
    have := (hcd.own_at he2 k).2 hk'
    omega
 have hd : w'.ownsRow L 36 1 d bs.length (xs.set b (.slice (some ⟨gc, 0, none⟩) n C)) := by
  rw [set_self hx]
  refine row_kept h.row fun k hk => ?_
  obtain ⟨-, h2, hc2⟩ := row_lt h.row hk
  refine hkeep k h2 (fun e2 => ?_) (fun hk' => ?_) (fun hk' => ?_)
  ·subst e2
   exact absurd (tyne hgc hc2) (by decide)
  ·exact absurd (tyne hc2 (row_lt hcV.row hk').2.2) (by decide)
  ·exact absurd (tyne hc2 (row_lt hcI.row hk').2.2) (by decide)
 have := h.put (w' := w') (l' := l.set i ins') (v' := .slice (some ⟨gc, 0, none⟩) n C) (es' := es.set i (c', t')) hb hx he hcode (fun k h1 h2 h3 h4 => hkeep k h1 (fun e => h2 (by subst e; rfl)) (h4 _ hcin).1 (h4 _ hcin).2) hd (fun k hk => .inl hk) (fun e k hee => by
  rcases List.mem_or_eq_of_mem_set hee with h1 | h1
  ·exact ⟨fun hk => .inl ⟨e, h1, hk⟩, fun hk => .inl ⟨e, h1, hk⟩⟩
  ·subst h1
   refine ⟨fun hk => ?_, fun hk => ?_⟩
   ·rcases hc k hk with h2 | h2
    ·exact .inl ⟨_, hcin, h2⟩
    ·exact .inr h2
   ·rcases ht k hk with h2 | h2
    ·exact .inl ⟨_, hcin, h2⟩
    ·exact .inr h2)
 rwa [set_self hx] at this
end
end
end Go.Proofs.Ytamjcafjdioidaa
