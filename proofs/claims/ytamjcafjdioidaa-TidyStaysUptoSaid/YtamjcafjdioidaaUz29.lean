/- Texts of the chain, without what is not wanted: TdT. No condition but sizes. -/
import Derived.WalkKit
import Derived.Deep.Slices
import Derived.Deep.Draws
import Derived.ChangeSame
import Derived.ChangeOld
import Derived.OwnWalk
import Derived.Laws.OwnMore
import Derived.Deep.AppendLies
import Derived.Test.YtamjcafjdioidaaRows
import Derived.ProofKit
import Derived.OpenShut
import Derived.JoinedCond
import Derived.WalkSpells
import Derived.WalkLawsBesides
import Derived.Deep.RegionHeld3
import Derived.Deep.LoopGhost
import Derived.Deep.QuietTactic
import Derived.BigQuiet
import Derived.Deep.DeepCutAuto
import Derived.Deep.CutBlock
import Derived.StillTailTactics
import Derived.Deep.RegionLaw
import Derived.Lib.SliceRun
import Derived.Laws.IdiomCopy
import Derived.Deep.MidRow
import Derived.Lib.Overlaps
import Derived.RegionTactic
import Derived.Deep.RegionLawGrows
import Derived.Test.YtamjcafjdioidaaUz01
import Derived.Test.YtamjcafjdioidaaUz02
import Derived.Test.YtamjcafjdioidaaUz03
import Derived.Test.YtamjcafjdioidaaUz04
import Derived.Test.YtamjcafjdioidaaUz05
import Derived.Test.YtamjcafjdioidaaUz06
import Derived.Test.YtamjcafjdioidaaUz07
import Derived.Test.YtamjcafjdioidaaUz08
import Derived.Test.YtamjcafjdioidaaUz09
import Derived.Test.YtamjcafjdioidaaUz10
import Derived.Test.YtamjcafjdioidaaUz11
import Derived.Test.YtamjcafjdioidaaUz12
import Derived.Test.YtamjcafjdioidaaUz13
import Derived.Test.YtamjcafjdioidaaUz14
import Derived.Test.YtamjcafjdioidaaUz15
import Derived.Test.YtamjcafjdioidaaUz16
import Derived.Test.YtamjcafjdioidaaUz17
import Derived.Test.YtamjcafjdioidaaUz18
import Derived.Test.YtamjcafjdioidaaUz19
import Derived.Test.YtamjcafjdioidaaUz20
import Derived.Test.YtamjcafjdioidaaUz21
import Derived.Test.YtamjcafjdioidaaUz22
import Derived.Test.YtamjcafjdioidaaUz23
import Derived.Test.YtamjcafjdioidaaUz24
import Derived.Test.YtamjcafjdioidaaUz25
import Derived.Test.YtamjcafjdioidaaUz26
import Derived.Test.YtamjcafjdioidaaUz27
import Derived.Test.YtamjcafjdioidaaUz28
namespace Go.Proofs.Ytamjcafjdioidaa
set_option linter.unusedVariables false
set_option linter.unusedSimpArgs false
theorem succsL_mem {n : Nat} {tl : List Int} {c : Int} : c ∈ succsL n tl ↔ c ∈ tl ∧ 0 ≤ c ∧ c < n := by
 have key : ∀ (tl acc : List Int), c ∈ tl.foldl (keepS n) acc ↔ c ∈ acc ∨ (c ∈ tl ∧ 0 ≤ c ∧ c < n) := by
  intro tl
  induction tl with
  | nil => intro acc; simp
  | cons t tl ih =>
   intro acc
   rw [List.foldl_cons, ih]
   unfold keepS
   by_cases h : 0 ≤ t ∧ t < n ∧ t ∉ acc
   ·rw [if_pos h, List.mem_append, List.mem_singleton, List.mem_cons]
    constructor
    ·rintro ((h1 | h1) | h1)
     ·exact .inl h1
     ·subst h1; exact .inr ⟨.inl rfl, h.1, h.2.1⟩
     ·exact .inr ⟨.inr h1.1, h1.2⟩
    ·rintro (h1 | ⟨h1 | h1, h2⟩)
     ·exact .inl (.inl h1)
     ·exact .inl (.inr h1)
     ·exact .inr ⟨h1, h2⟩
   ·rw [if_neg h, List.mem_cons]
    constructor
    ·rintro (h1 | h1)
     ·exact .inl h1
     ·exact .inr ⟨.inr h1.1, h1.2⟩
    ·rintro (h1 | ⟨h1 | h1, h2⟩)
     ·exact .inl h1
     ·subst h1
      by_cases h3 : c ∈ acc
      ·exact .inl h3
      ·exact absurd ⟨h2.1, h2.2, h3⟩ h
     ·exact .inr ⟨h1, h2⟩
 unfold succsL
 rw [key]
 simp
def EndTo (bs : List (List Ins)) (p : Nat) (c : Int) : Prop := ∃ x, endI bs p = some x ∧ (x.op = 31 ∨ x.op = 32) ∧ c ∈ x.to
theorem endI_last {bs : List (List Ins)} {p : Nat} {l : List Ins} (h : bs[p]? = some l) : endI bs p = l.getLast? := by
 unfold endI
 rw [h, List.getLast?_eq_getElem?]
 rfl
theorem endTo_succ {bs : List (List Ins)} {p : Nat} {c : Int} (hc : 0 ≤ c ∧ c < bs.length) : EndTo bs p c ↔ c ∈ succsF bs p := by
 unfold EndTo succsF
 rw [if_pos (by omega), Int.toNat_natCast]
 cases hp : bs[p]? with
 | none =>
  simp [endI, hp]
 | some l =>
  rw [endI_last hp]
  unfold succsB
  cases hl : l.getLast? with
  | none => simp [hl]
  | some x =>
   simp only [hl, Option.some.injEq]
   constructor
   ·rintro ⟨y, rfl, h1, h2⟩
    rw [if_pos h1, succsL_mem]
    exact ⟨h2, hc⟩
   ·intro h1
    split at h1
    ·rename_i h2
     exact ⟨x, rfl, h2, (succsL_mem.1 h1).1⟩
    ·cases h1
structure LInv (n : Nat) (l : List Ins) : Prop where
 wf : WfB n l
 fr : Fronts l
 mid : ∀ (i : Nat) x, l[i]? = some x → i + 1 < l.length → x.op = 25 ∨ x.to = []
 fin : ∀ x, l.getLast? = some x → x.op ≠ 25 ∧ (x.op = 31 ∨ x.op = 32 ∨ x.to = []) ∧ ∀ t, t ∈ x.to → 1 ≤ t
 srt : ∀ x, x ∈ l → x.op = 25 → x.to.Pairwise (· < ·)
 sz : ∀ x, x ∈ l → x.args.length ≤ 2000000 ∧ x.to.length ≤ 2000000
def PInv (bs : List (List Ins)) (c : Nat) (l : List Ins) : Prop := ∀ x, x ∈ l → x.op = 25 → c ≠ 0 ∧ ∀ p : Int, p ∈ x.to ↔ (0 ≤ p ∧ EndTo bs p.toNat c)
structure TInv (bs : List (List Ins)) : Prop where
 pos : 0 < bs.length
 size : mz bs ≤ 2000000
 loc : ∀ (c : Nat) l, bs[c]? = some l → LInv bs.length l
 phi : ∀ (c : Nat) l, bs[c]? = some l → PInv bs c l
theorem endTo_lt {bs : List (List Ins)} {p : Nat} {c : Int} (h : EndTo bs p c) : p < bs.length := by
 obtain ⟨x, h1, -, -⟩ := h
 unfold endI at h1
 cases hp : bs[p]? with
 | none => rw [hp] at h1; cases h1
 | some l => exact (List.getElem?_eq_some_iff.1 hp).1
theorem LInv.kinds {n : Nat} {l : List Ins} (h : LInv n l) {x : Ins} (hx : x ∈ l) : x.op = 25 ∨ x.to = [] ∨ (l.getLast? = some x ∧ (x.op = 31 ∨ x.op = 32)) := by
 obtain ⟨i, hi⟩ := List.mem_iff_getElem?.1 hx
 have hil := (List.getElem?_eq_some_iff.1 hi).1
 by_cases h1 : i + 1 < l.length
 ·rcases h.mid i x hi h1 with h2 | h2
  ·exact .inl h2
  ·exact .inr (.inl h2)
 ·have hlast : l.getLast? = some x := by
   rw [List.getLast?_eq_getElem?, show l.length - 1 = i by omega]
   exact hi
  obtain ⟨h2, h3, -⟩ := h.fin x hlast
  rcases h3 with h4 | h4 | h4
  ·exact .inr (.inr ⟨hlast, .inl h4⟩)
  ·exact .inr (.inr ⟨hlast, .inr h4⟩)
  ·exact .inr (.inl h4)
section
variable {gone : List Bool} {n : Nat}
def Kept (gone : List Bool) (c : Nat) : Prop := gone.getD c false = false
theorem leftN_lt {a b : Nat} (hab : a < b) (hb : b ≤ gone.length) (hk : Kept gone a) : leftN gone a < leftN gone b := by
 induction b with
 | zero => omega
 | succ b ih =>
  have h1 : gone[b]? = some (gone[b]'(by omega)) := List.getElem?_eq_getElem _
  rw [leftN_next h1]
  by_cases h2 : a = b
  ·subst h2
   have h3 : gone[a]'(by omega) = false := by
    unfold Kept at hk
    rw [List.getD_eq_getElem?_getD, h1] at hk
    exact hk
   rw [h3]; simp
  ·have := ih (by omega) (by omega)
   omega
theorem leftN_inj {a b : Nat} (ha : a < gone.length) (hb : b < gone.length) (hka : Kept gone a) (hkb : Kept gone b) (h : leftN gone a = leftN gone b) : a = b := by
 rcases Nat.lt_trichotomy a b with h1 | h1 | h1
 ·have := leftN_lt h1 (by omega) hka; omega
 ·exact h1
 ·have := leftN_lt h1 (by omega) hkb; omega
theorem keptN_at (hn : n = gone.length) {c : Nat} (hc : c < n) (hk : Kept gone c) : (keptN gone n)[leftN gone c]? = some c := by
 subst hn
 have h1 : keptN gone gone.length = keptN gone (c + 1) ++ ((List.range' (c + 1) (gone.length - (c + 1))).filter fun b => !(gone.getD b false)) := by
  unfold keptN
  rw [← List.filter_append]
  congr 1
  rw [List.range_eq_range', List.range_eq_range']
  have := List.range'_append_1 (s := 0) (m := c + 1) (n := gone.length - (c + 1))
  rw [Nat.zero_add] at this
  rw [this, show c + 1 + (gone.length - (c + 1)) = gone.length by omega]
 have h2 : gone[c]? = some false := by
  unfold Kept at hk
  rw [List.getD_eq_getElem?_getD] at hk
  rw [List.getElem?_eq_getElem hc] at hk ⊢
  simpa using hk
 have h3 := keptN_len (gone := gone) (b := c) (by omega)
 rw [h1, keptN_next h2, List.append_assoc, List.getElem?_append_right (by omega), h3, Nat.sub_self]
 rfl
theorem keptN_kept {c : Nat} (h : c ∈ keptN gone n) : c < n ∧ Kept gone c := by
 obtain ⟨h1, h2⟩ := List.mem_filter.1 h
 exact ⟨List.mem_range.1 h1, by simpa [Kept] using h2⟩
theorem keptN_left (hn : n = gone.length) {c c' : Nat} (h : (keptN gone n)[c']? = some c) : leftN gone c = c' := by
 have h1 := keptN_kept (List.mem_of_getElem? h)
 have h2 := keptN_at hn h1.1 h1.2
 have h3 := (List.getElem?_eq_some_iff.1 h).1
 have h4 := (List.getElem?_eq_some_iff.1 h2).1
 have h5 := keptN_nodup gone n
 rw [List.getElem?_eq_getElem h3] at h
 rw [List.getElem?_eq_getElem h4] at h2
 exact (List.getElem_inj h5).1 ((Option.some.inj h2).trans (Option.some.inj h).symm)
theorem without_at (bs : List (List Ins)) {c' : Nat} {l' : List Ins} (h : (withoutS gone bs)[c']? = some l') (hn : bs.length = gone.length) : ∃ c l, bs[c]? = some l ∧ Kept gone c ∧ leftN gone c = c' ∧ l' = l.map (renI gone) := by
 unfold withoutS at h
 rw [List.getElem?_map] at h
 cases hc : (keptN gone bs.length)[c']? with
 | none => rw [hc] at h; cases h
 | some c =>
  rw [hc] at h
  cases h
  have h1 := keptN_kept (List.mem_of_getElem? hc)
  exact ⟨c, bs.getD c [], getD_at h1.1, h1.2, keptN_left hn hc, rfl⟩
theorem without_get (bs : List (List Ins)) {c : Nat} {l : List Ins} (h : bs[c]? = some l) (hn : bs.length = gone.length) (hk : Kept gone c) : (withoutS gone bs)[leftN gone c]? = some (l.map (renI gone)) := by
 unfold withoutS
 rw [List.getElem?_map, keptN_at hn (List.getElem?_eq_some_iff.1 h).1 hk]
 simp only [Option.map_some, List.getD_eq_getElem?_getD, h, Option.getD_some]
theorem without_len (bs : List (List Ins)) : (withoutS gone bs).length = (keptN gone bs.length).length := by unfold withoutS; simp
theorem renI_op (x : Ins) : (renI gone x).op = x.op := rfl
theorem renI_to (x : Ins) : (renI gone x).to = x.to.map (renT gone) := rfl
theorem renI_args (x : Ins) : (renI gone x).args = x.args := rfl
end
theorem map_last {g : Ins → Ins} {l : List Ins} {y : Ins} (h : (l.map g).getLast? = some y) : ∃ x, l.getLast? = some x ∧ y = g x := by
 rw [List.getLast?_map] at h
 cases hl : l.getLast? with
 | none => rw [hl] at h; cases h
 | some x => rw [hl] at h; cases h; exact ⟨x, rfl, rfl⟩
theorem LInv.map {n n' : Nat} {l : List Ins} (h : LInv n l) (g : Ins → Ins) (hop : ∀ x, (g x).op = x.op) (hargs : ∀ x, x ∈ l → x.op ≠ 25 → (g x).args.length = x.args.length) (hto : ∀ x, x ∈ l → x.op ≠ 25 → (g x).to.length = x.to.length)
  (hlen : ∀ x, x ∈ l → x.op = 25 → (g x).args.length = (g x).to.length) (hsrt : ∀ x, x ∈ l → x.op = 25 → (g x).to.Pairwise (· < ·)) (hrng : ∀ x, x ∈ l → ∀ t, t ∈ (g x).to → 0 ≤ t ∧ t < n') (hone : ∀ x, l.getLast? = some x → ∀ t, t ∈ (g x).to → 1 ≤ t) (hsz : ∀ x, x ∈ l → x.op = 25 → (g x).to.length ≤ x.to.length) : LInv n' (l.map g) := by
 refine ⟨⟨?_, ?_, ?_, ?_, ?_⟩, ?_, ?_, ?_, ?_, ?_⟩
 ·have := h.wf.ne
  intro e
  exact this (List.map_eq_nil_iff.1 e)
 ·intro y hy ho
  obtain ⟨x, hx, rfl⟩ := List.mem_map.1 hy
  rw [hop] at ho
  rw [hargs x hx (by omega), hto x hx (by omega)]
  exact h.wf.brif x hx ho
 ·intro y hy ho
  obtain ⟨x, hx, rfl⟩ := List.mem_map.1 hy
  rw [hop] at ho
  rw [hto x hx (by omega)]
  exact h.wf.br x hx ho
 ·intro y hy ho
  obtain ⟨x, hx, rfl⟩ := List.mem_map.1 hy
  rw [hop] at ho
  exact hlen x hx ho
 ·intro y hy t ht
  obtain ⟨x, hx, rfl⟩ := List.mem_map.1 hy
  exact hrng x hx t ht
 ·intro i j y z hy hz hij ho
  rw [List.getElem?_map] at hy hz
  cases hi : l[i]? with
  | none => rw [hi] at hy; cases hy
  | some x =>
   cases hj : l[j]? with
   | none => rw [hj] at hz; cases hz
   | some x' =>
    rw [hi] at hy
    rw [hj] at hz
    cases hy; cases hz
    rw [hop] at ho ⊢
    exact h.fr i j x x' hi hj hij ho
 ·intro i y hy hl
  rw [List.getElem?_map] at hy
  cases hi : l[i]? with
  | none => rw [hi] at hy; cases hy
  | some x =>
   rw [hi] at hy
   cases hy
   rw [List.length_map] at hl
   rcases h.mid i x hi hl with h1 | h1
   ·left; rw [hop]; exact h1
   ·by_cases h25 : x.op = 25
    ·left; rw [hop]; exact h25
    ·right
     refine List.eq_nil_of_length_eq_zero ?_
     rw [hto x (List.mem_of_getElem? hi) h25, h1]; rfl
 ·intro y hy
  obtain ⟨x, hx, rfl⟩ := map_last hy
  obtain ⟨h1, h2, -⟩ := h.fin x hx
  refine ⟨by rw [hop]; exact h1, ?_, hone x hx⟩
  rw [hop]
  rcases h2 with h2 | h2 | h2
  ·exact .inl h2
  ·exact .inr (.inl h2)
  ·right; right
   refine List.eq_nil_of_length_eq_zero ?_
   rw [hto x (List.mem_of_getLast? hx) h1, h2]; rfl
 ·intro y hy ho
  obtain ⟨x, hx, rfl⟩ := List.mem_map.1 hy
  rw [hop] at ho
  exact hsrt x hx ho
 ·intro y hy
  obtain ⟨x, hx, rfl⟩ := List.mem_map.1 hy
  have h1 := h.sz x hx
  by_cases h25 : x.op = 25
  ·have h2 := hlen x hx h25
   have h3 := hsz x hx h25
   omega
  ·rw [hargs x hx h25, hto x hx h25]; exact h1
theorem sorted_ren {gone : List Bool} {tl : List Int} (hs : tl.Pairwise (· < ·)) (hk : ∀ t, t ∈ tl → 0 ≤ t ∧ t < gone.length ∧ Kept gone t.toNat) : (tl.map (renT gone)).Pairwise (· < ·) := by
 rw [List.pairwise_map]
 refine hs.imp_of_mem fun {a b} ha hb hab => ?_
 obtain ⟨a1, a2, a3⟩ := hk a ha
 obtain ⟨b1, b2, b3⟩ := hk b hb
 have := leftN_lt (gone := gone) (a := a.toNat) (b := b.toNat) (by omega) (by omega) a3
 unfold renT
 omega
theorem mz_cons (l : List Ins) (bs : List (List Ins)) : mz (l :: bs) = wt l + mz bs := by simp [mz]
theorem mz_append (a b : List (List Ins)) : mz (a ++ b) = mz a + mz b := by simp [mz]
theorem wt_map {g : Ins → Ins} (hop : ∀ x, (g x).op = x.op) (l : List Ins) : wt (l.map g) = wt l := by
 unfold wt
 rw [List.length_map, List.countP_map]
 congr 1
 refine List.countP_congr fun x _ => ?_
 simp [hop]
theorem mz_len (bs : List (List Ins)) : bs.length ≤ mz bs := by
 induction bs with
 | nil => simp [mz]
 | cons l bs ih => rw [mz_cons]; unfold wt; simp only [List.length_cons]; omega
theorem mz_mem {bs : List (List Ins)} {l : List Ins} (h : l ∈ bs) : wt l ≤ mz bs := by
 induction bs with
 | nil => cases h
 | cons y bs ih =>
  rw [mz_cons]
  rcases List.mem_cons.1 h with h1 | h1
  ·subst h1; omega
  ·have := ih h1; omega
theorem mz_set {bs : List (List Ins)} {b : Nat} {l l' : List Ins} (h : bs[b]? = some l) : mz (bs.set b l') + wt l = mz bs + wt l' := by
 induction bs generalizing b with
 | nil => simp at h
 | cons y bs ih =>
  cases b with
  | zero => cases h; rw [List.set_cons_zero, mz_cons, mz_cons]; omega
  | succ b => rw [List.set_cons_succ, mz_cons, mz_cons]; have := ih (by simpa using h); omega
theorem mz_kept {bs : List (List Ins)} (gone : List Bool) : ∀ (k : Nat), k ≤ bs.length → mz ((keptN gone k).map fun b => (bs.getD b []).map (renI gone)) + ((List.range k).filter fun b => gone.getD b false).length ≤ mz (bs.take k)
 | 0, _ => by simp [keptN, mz]
 | k + 1, hk => by
  have ih := mz_kept (bs := bs) gone k (by omega)
  have h1 : bs[k]? = some (bs.getD k []) := getD_at (l := bs) (by omega)
  have e1 : bs.take (k + 1) = bs.take k ++ [bs.getD k []] := take_snoc h1
  have e2 : keptN gone (k + 1) = keptN gone k ++ (if gone.getD k false = true then [] else [k]) := by
   unfold keptN
   rw [List.range_succ, List.filter_append, List.filter_cons]
   cases gone.getD k false <;> simp
  rw [e1, e2, List.map_append, mz_append, mz_append, List.range_succ, List.filter_append, List.length_append]
  have e3 : mz [bs.getD k []] = wt (bs.getD k []) := by simp [mz]
  have e4 : 1 ≤ wt (bs.getD k []) := by unfold wt; omega
  rw [e3]
  have a1 : mz (List.map (fun b => (bs.getD b []).map (renI gone)) (if gone.getD k false = true then [] else [k])) + (List.filter (fun b => gone.getD b false) [k]).length ≤ wt (bs.getD k []) := by
   cases hg : gone.getD k false with
   | true =>
    rw [if_pos rfl, List.filter_cons, hg, if_pos rfl]
    simpa [mz] using e4
   | false =>
    rw [if_neg (by decide), List.filter_cons, hg, if_neg (by decide)]
    have e6 : mz (List.map (fun b => (bs.getD b []).map (renI gone)) [k]) = wt ((bs.getD k []).map (renI gone)) := by simp only [mz, List.map_cons, List.map_nil, List.sum_cons, List.sum_nil, Nat.add_zero]
    rw [e6, wt_map (fun x => renI_op x)]
    exact Nat.le_refl _
  omega
theorem mz_without {bs : List (List Ins)} {gone : List Bool} : mz (withoutS gone bs) + ((List.range bs.length).filter fun b => gone.getD b false).length ≤ mz bs := by
 have := mz_kept (bs := bs) gone bs.length (Nat.le_refl _)
 rw [List.take_length] at this
 exact this
theorem TInv.without {bs : List (List Ins)} {gone : List Bool} (hn : bs.length = gone.length) (h0 : Kept gone 0) (hpos : 0 < bs.length) (hsz : mz bs ≤ 2000000)
  (hloc : ∀ (c : Nat) l, bs[c]? = some l → Kept gone c → LInv bs.length l) (hto : ∀ (c : Nat) l, bs[c]? = some l → Kept gone c → ∀ x, x ∈ l → ∀ t, t ∈ x.to → Kept gone t.toNat)
  (hphi : ∀ (c : Nat) l, bs[c]? = some l → Kept gone c → ∀ x, x ∈ l → x.op = 25 → c ≠ 0 ∧ ∀ p : Int, p ∈ x.to ↔ (0 ≤ p ∧ Kept gone p.toNat ∧ EndTo bs p.toNat c)) : TInv (withoutS gone bs) := by
 have hlen := without_len (gone := gone) bs
 have hleft : ∀ c, c < bs.length → Kept gone c → leftN gone c < (withoutS gone bs).length := fun c hc hk => by
  rw [hlen]
  exact (List.getElem?_eq_some_iff.1 (keptN_at hn hc hk)).1
 have hend : ∀ p c, p < bs.length → c < bs.length → Kept gone p → Kept gone c → (EndTo (withoutS gone bs) (leftN gone p) (leftN gone c) ↔ EndTo bs p c) := fun p c hp hc hkp hkc => by
  have hb : bs[p]? = some (bs.getD p []) := getD_at hp
  have hb' := without_get bs hb hn hkp
  unfold EndTo
  rw [endI_last hb, endI_last hb', List.getLast?_map]
  cases hl : (bs.getD p []).getLast? with
  | none => simp
  | some x =>
   have hx : x ∈ bs.getD p [] := List.mem_of_getLast? hl
   simp only [Option.map_some, Option.some.injEq]
   constructor
   ·rintro ⟨y, rfl, h1, h2⟩
    rw [renI_op] at h1
    rw [renI_to] at h2
    obtain ⟨t, ht, h3⟩ := List.mem_map.1 h2
    have hr := (hloc p _ hb hkp).wf.to_ x hx t ht
    have hk := hto p _ hb hkp x hx t ht
    have : t.toNat = c := leftN_inj (by omega) (by omega) hk hkc (by unfold renT at h3; omega)
    refine ⟨x, rfl, h1, ?_⟩
    rw [show (c : Int) = t by omega]
    exact ht
   ·rintro ⟨y, rfl, h1, h2⟩
    refine ⟨renI gone x, rfl, h1, ?_⟩
    rw [renI_to]
    exact List.mem_map.2 ⟨(c : Int), h2, by unfold renT; rw [Int.toNat_natCast]⟩
 refine ⟨?_, ?_, fun c' l' hl' => ?_, fun c' l' hl' => ?_⟩
 ·have := hleft 0 hpos h0
  omega
 ·have := mz_without (bs := bs) (gone := gone)
  omega
 ·obtain ⟨c, l, hl, hk, hc, rfl⟩ := without_at bs hl' hn
  have hli := hloc c l hl hk
  refine hli.map (renI gone) (fun x => rfl) (fun x _ _ => rfl) (fun x _ _ => by rw [renI_to, List.length_map]) (fun x hx ho => ?_) (fun x hx ho => ?_) (fun x hx t ht => ?_) (fun x hx t ht => ?_) (fun x hx ho => ?_)
  ·rw [renI_args, renI_to, List.length_map]
   exact hli.wf.phi x hx ho
  ·rw [renI_to]
   refine sorted_ren (hli.srt x hx ho) fun t ht => ?_
   have := hli.wf.to_ x hx t ht
   exact ⟨this.1, by omega, hto c l hl hk x hx t ht⟩
  ·rw [renI_to] at ht
   obtain ⟨s, hs, rfl⟩ := List.mem_map.1 ht
   have h1 := hli.wf.to_ x hx s hs
   have h2 := hleft s.toNat (by omega) (hto c l hl hk x hx s hs)
   unfold renT
   omega
  ·rw [renI_to] at ht
   obtain ⟨s, hs, rfl⟩ := List.mem_map.1 ht
   have h1 := (hli.fin x hx).2.2 s hs
   have h3 : leftN gone 0 = 0 := by simp [leftN]
   have hxm := List.mem_of_getLast? hx
   have h4 := hli.wf.to_ x hxm s hs
   have h2 := leftN_lt (gone := gone) (a := 0) (b := s.toNat) (by omega) (by omega) h0
   unfold renT
   omega
  ·rw [renI_to, List.length_map]; exact Nat.le_refl _
 ·obtain ⟨c, l, hl, hk, hc, rfl⟩ := without_at bs hl' hn
  have hcl := (List.getElem?_eq_some_iff.1 hl).1
  intro y hy ho
  obtain ⟨x, hx, rfl⟩ := List.mem_map.1 hy
  obtain ⟨h1, h2⟩ := hphi c l hl hk x hx ho
  have h3 : leftN gone 0 = 0 := by simp [leftN]
  refine ⟨?_, fun p => ?_⟩
  ·have := leftN_lt (gone := gone) (a := 0) (b := c) (by omega) (by omega) h0
   omega
  ·rw [renI_to, List.mem_map, ← hc]
   constructor
   ·rintro ⟨q, hq, rfl⟩
    obtain ⟨q0, q1, q2⟩ := (h2 q).1 hq
    have q3 := endTo_lt q2
    refine ⟨by unfold renT; omega, ?_⟩
    unfold renT
    rw [Int.toNat_natCast]
    exact (hend q.toNat c q3 hcl q1 hk).2 q2
   ·rintro ⟨p0, p1⟩
    have p2 := endTo_lt p1
    rw [hlen] at p2
    obtain ⟨q, hq⟩ : ∃ q, (keptN gone bs.length)[p.toNat]? = some q := ⟨_, List.getElem?_eq_getElem p2⟩
    have q1 := keptN_kept (List.mem_of_getElem? hq)
    have q2 := keptN_left hn hq
    rw [← q2] at p1
    refine ⟨(q : Int), (h2 q).2 ⟨by omega, by rw [Int.toNat_natCast]; exact q1.2, by rw [Int.toNat_natCast]; exact (hend q c q1.1 hcl q1.2 hk).1 p1⟩, ?_⟩
    unfold renT
    rw [Int.toNat_natCast, q2]
    omega
end Go.Proofs.Ytamjcafjdioidaa
