/- memssa, the plain side: the row of accesses, the last access that changes memory, what stands. No condition. -/
import Derived.Test.YteeclobpajalmaaMsB
import Derived.Test.YteeclobpajalmaaMsC
import Derived.Test.YteeclobpajalmaaSm
namespace Go.Proofs.Yteeclobpajalmaa
set_option linter.unusedVariables false
set_option linter.unusedSimpArgs false

def accI (b i : Nat) (x : Ins) : List Ac := if chgB x.op = true then [⟨1, b, i, [], []⟩] else if x.op = 27 then [⟨2, b, i, [], []⟩] else []
def codeA (b : Nat) (x : List Ins) : Nat → List Ac
  | 0 => []
  | i + 1 => codeA b x i ++ ((x[i]?).map (accI b i)).getD []
def phiA (H : Nat → Bool) (b : Nat) : List Ac := if H b = true then [⟨3, b, -1, [], []⟩] else []
def blkA (bs : List (List Ins)) (H : Nat → Bool) (o : List Int) (b : Nat) : List Ac := if (b : Int) ∈ o then phiA H b ++ codeA b (bs.getD b []) (bs.getD b []).length else []
def laidA (bs : List (List Ins)) (H : Nat → Bool) (o : List Int) : Nat → List Ac
  | 0 => [⟨0, 0, -1, [], []⟩]
  | k + 1 => laidA bs H o k ++ blkA bs H o k
theorem codeA_step {b : Nat} {x : List Ins} {i : Nat} {s : Ins} (h : x[i]? = some s) : codeA b x (i + 1) = codeA b x i ++ accI b i s := by
  show codeA b x i ++ ((x[i]?).map (accI b i)).getD [] = _
  rw [h]; rfl
theorem accI_def {b i : Nat} {x : Ins} (h : chgB x.op = true) : accI b i x = [⟨1, b, i, [], []⟩] := by unfold accI; rw [if_pos h]
theorem accI_use {b i : Nat} {x : Ins} (h : chgB x.op = false) (h2 : x.op = 27) : accI b i x = [⟨2, b, i, [], []⟩] := by unfold accI; rw [if_neg (by rw [h]; simp), if_pos h2]
theorem accI_no {b i : Nat} {x : Ins} (h : chgB x.op = false) (h2 : ¬ x.op = 27) : accI b i x = [] := by unfold accI; rw [if_neg (by rw [h]; simp), if_neg h2]
theorem accI_len {b i : Nat} {x : Ins} : (accI b i x).length ≤ 1 := by unfold accI; split <;> (try split) <;> simp
theorem accI_mem {b i : Nat} {x : Ins} {a : Ac} (h : a ∈ accI b i x) : ∃ k : Int, (k = 1 ∨ k = 2) ∧ a = ⟨k, b, i, [], []⟩ := by
  unfold accI at h
  split at h
  · exact ⟨1, .inl rfl, List.mem_singleton.1 h⟩
  · split at h
    · exact ⟨2, .inr rfl, List.mem_singleton.1 h⟩
    · cases h
theorem codeA_len {b : Nat} {x : List Ins} : ∀ i, (codeA b x i).length ≤ i
  | 0 => Nat.le_refl _
  | i + 1 => by
    have h := codeA_len (b := b) (x := x) i
    show (codeA b x i ++ ((x[i]?).map (accI b i)).getD []).length ≤ _
    rw [List.length_append]
    have h2 : (((x[i]?).map (accI b i)).getD []).length ≤ 1 := by
      cases x[i]? with
      | none => simp
      | some s => exact accI_len
    omega
theorem codeA_mono {b : Nat} {x : List Ins} {i : Nat} : ∀ {j : Nat}, i ≤ j → (codeA b x i).length ≤ (codeA b x j).length
  | 0, h => by rw [Nat.le_zero.1 h]; exact Nat.le_refl _
  | j + 1, h => by
    rcases Nat.lt_or_ge j i with h1 | h1
    · have : i = j + 1 := by omega
      rw [this]; exact Nat.le_refl _
    · have h2 := codeA_mono (b := b) (x := x) h1
      show _ ≤ (codeA b x j ++ ((x[j]?).map (accI b j)).getD []).length
      rw [List.length_append]; omega
theorem codeA_mem {b : Nat} {x : List Ins} {a : Ac} : ∀ i, a ∈ codeA b x i → ∃ (j : Nat) (k : Int), j < i ∧ (k = 1 ∨ k = 2) ∧ a = ⟨k, b, j, [], []⟩
  | 0, h => by cases h
  | i + 1, h => by
    rcases List.mem_append.1 h with h1 | h1
    · obtain ⟨j, k, h2, h3⟩ := codeA_mem i h1
      exact ⟨j, k, by omega, h3⟩
    · cases hx : x[i]? with
      | none => rw [hx] at h1; cases h1
      | some s =>
        rw [hx] at h1
        obtain ⟨k, h2, h3⟩ := accI_mem h1
        exact ⟨i, k, by omega, h2, h3⟩
/-- two accesses as the row has them -/
def AccLt (a c : Ac) : Prop := a.block < c.block ∨ a.block = c.block ∧ a.pos < c.pos
theorem codeA_sorted {b : Nat} {x : List Ins} : ∀ i, (codeA b x i).Pairwise AccLt
  | 0 => .nil
  | i + 1 => by
    show (codeA b x i ++ ((x[i]?).map (accI b i)).getD []).Pairwise _
    rw [List.pairwise_append]
    refine ⟨codeA_sorted i, ?_, fun a ha c hc => ?_⟩
    · cases x[i]? with
      | none => exact .nil
      | some s =>
        show (accI b i s).Pairwise _
        unfold accI
        split
        · simp
        · split <;> simp
    · obtain ⟨j, k, h1, h2, rfl⟩ := codeA_mem i ha
      cases hx : x[i]? with
      | none => rw [hx] at hc; cases hc
      | some s =>
        rw [hx] at hc
        obtain ⟨k', h3, rfl⟩ := accI_mem hc
        exact .inr ⟨rfl, by show (j : Int) < (i : Int); omega⟩
section
variable {bs : List (List Ins)} {H : Nat → Bool} {o : List Int}
theorem blkA_in {b : Nat} {x : List Ins} (h : (b : Int) ∈ o) (hx : bs[b]? = some x) : blkA bs H o b = phiA H b ++ codeA b x x.length := by
  unfold blkA
  rw [if_pos h, List.getD_eq_getElem?_getD, hx]; rfl
theorem blkA_out {b : Nat} (h : ¬ (b : Int) ∈ o) : blkA bs H o b = [] := by unfold blkA; rw [if_neg h]
theorem blkA_mem {b : Nat} {a : Ac} (h : a ∈ blkA bs H o b) : (b : Int) ∈ o ∧ ((H b = true ∧ a = ⟨3, b, -1, [], []⟩) ∨ ∃ (j : Nat) (k : Int), j < (bs.getD b []).length ∧ (k = 1 ∨ k = 2) ∧ a = ⟨k, b, j, [], []⟩) := by
  unfold blkA at h
  split at h
  · rename_i hb
    refine ⟨hb, ?_⟩
    rcases List.mem_append.1 h with h1 | h1
    · unfold phiA at h1
      split at h1
      · rename_i h2
        exact .inl ⟨h2, List.mem_singleton.1 h1⟩
      · cases h1
    · exact .inr (codeA_mem _ h1)
  · cases h
theorem blkA_sorted {b : Nat} : (blkA bs H o b).Pairwise AccLt := by
  unfold blkA
  split
  · rw [List.pairwise_append]
    refine ⟨?_, codeA_sorted _, fun a ha c hc => ?_⟩
    · unfold phiA; split <;> simp
    · unfold phiA at ha
      split at ha
      · rw [List.mem_singleton.1 ha]
        obtain ⟨j, k, h1, h2, rfl⟩ := codeA_mem _ hc
        exact .inr ⟨rfl, by show (-1 : Int) < (j : Int); omega⟩
      · cases ha
  · exact .nil
theorem blkA_len {b : Nat} : (blkA bs H o b).length ≤ (bs.getD b []).length + 1 := by
  unfold blkA
  split
  · rw [List.length_append]
    have := codeA_len (b := b) (x := bs.getD b []) (bs.getD b []).length
    have h2 : (phiA H b).length ≤ 1 := by unfold phiA; split <;> simp
    omega
  · simp
theorem laidA_len : ∀ k, (laidA bs H o k).length ≤ ((bs.take k).map blkSz).sum + k + 1
  | 0 => by simp [laidA]
  | k + 1 => by
    have h := laidA_len k
    have h2 := blkA_len (bs := bs) (H := H) (o := o) (b := k)
    show (laidA bs H o k ++ blkA bs H o k).length ≤ _
    rw [List.length_append]
    cases hx : bs[k]? with
    | none =>
      rw [List.getD_eq_getElem?_getD, hx] at h2
      have h3 : bs.take (k + 1) = bs.take k := by rw [List.take_add_one, hx]; simp
      rw [h3]
      simp at h2
      omega
    | some x =>
      rw [List.getD_eq_getElem?_getD, hx] at h2
      have h4 : x.length ≤ (x.map insSz).sum := sum_len insSz (fun x => by unfold insSz; omega) x
      have h3 : blkSz x = (x.map insSz).sum + 1 := rfl
      have h5 : ((some x).toList.map blkSz).sum = blkSz x := by simp
      rw [List.take_add_one, hx, List.map_append, List.sum_append, h5]
      simp only [Option.getD_some] at h2
      omega
theorem laidA_small {f : Fun} (h : funSz f ≤ 2000000) {k : Nat} (hk : k ≤ f.blocks.length) : (laidA f.blocks H o k).length ≤ 4000001 := by
  have h1 := laidA_len (bs := f.blocks) (H := H) (o := o) k
  have h2 : ((f.blocks.take k).map blkSz).sum ≤ (f.blocks.map blkSz).sum := by
    have e := List.take_append_drop k f.blocks
    have : (f.blocks.map blkSz).sum = ((f.blocks.take k).map blkSz).sum + ((f.blocks.drop k).map blkSz).sum := by rw [← List.sum_append, ← List.map_append, e]
    omega
  have h3 := (small_of h).blocks
  unfold funSz blksSz at h
  omega
theorem laidA_pos (k : Nat) : 0 < (laidA bs H o k).length := by
  induction k with
  | zero => exact Nat.zero_lt_one
  | succ k ih => show 0 < (laidA bs H o k ++ blkA bs H o k).length; rw [List.length_append]; omega
theorem laidA_app {k : Nat} : ∀ m, ∃ r, laidA bs H o (k + m) = laidA bs H o k ++ r ∧ ∀ a, a ∈ r → ∃ b : Nat, k ≤ b ∧ b < k + m ∧ a ∈ blkA bs H o b
  | 0 => ⟨[], by simp, fun a h => by cases h⟩
  | m + 1 => by
    obtain ⟨r, h1, h2⟩ := laidA_app m
    refine ⟨r ++ blkA bs H o (k + m), ?_, fun a ha => ?_⟩
    · show laidA bs H o (k + m) ++ blkA bs H o (k + m) = _
      rw [h1, List.append_assoc]
    · rcases List.mem_append.1 ha with h | h
      · obtain ⟨b, h3, h4, h5⟩ := h2 a h
        exact ⟨b, h3, by omega, h5⟩
      · exact ⟨k + m, by omega, by omega, h⟩
theorem laidA_zero (k : Nat) : (laidA bs H o k)[0]? = some ⟨0, 0, -1, [], []⟩ := by
  induction k with
  | zero => rfl
  | succ k ih =>
    show (laidA bs H o k ++ blkA bs H o k)[0]? = _
    rw [List.getElem?_append_left (laidA_pos k)]
    exact ih
/-- an access behind the first -/
theorem laidA_mem {a : Ac} : ∀ (k : Nat) {i : Nat}, (laidA bs H o k)[i]? = some a → 0 < i → ∃ b, b < k ∧ a ∈ blkA bs H o b ∧ (laidA bs H o b).length ≤ i
  | 0, i, h, hi => by
    have := (List.getElem?_eq_some_iff.1 h).1
    simp [laidA] at this
    omega
  | k + 1, i, h, hi => by
    change (laidA bs H o k ++ blkA bs H o k)[i]? = some a at h
    rcases Nat.lt_or_ge i (laidA bs H o k).length with hl | hl
    · rw [List.getElem?_append_left hl] at h
      obtain ⟨b, h1, h2⟩ := laidA_mem k h hi
      exact ⟨b, by omega, h2⟩
    · rw [List.getElem?_append_right hl] at h
      exact ⟨k, by omega, List.mem_of_getElem? h, hl⟩
theorem laidA_bare {a : Ac} {k : Nat} (h : a ∈ laidA bs H o k) : a.defs = [] ∧ a.orig = [] := by
  obtain ⟨i, hi⟩ := List.mem_iff_getElem?.1 h
  rcases Nat.eq_zero_or_pos i with e | e
  · subst e
    rw [laidA_zero] at hi
    cases hi
    exact ⟨rfl, rfl⟩
  · obtain ⟨b, h1, h2, h3⟩ := laidA_mem k hi e
    rcases (blkA_mem h2).2 with ⟨-, rfl⟩ | ⟨j, q, -, -, rfl⟩
    · exact ⟨rfl, rfl⟩
    · exact ⟨rfl, rfl⟩
theorem laidA_block {a : Ac} {k i : Nat} (h : (laidA bs H o k)[i]? = some a) (hi : 0 < i) : ∃ b : Nat, a.block = b ∧ b < k ∧ (b : Int) ∈ o ∧ (laidA bs H o b).length ≤ i ∧ i < (laidA bs H o (b + 1)).length := by
  obtain ⟨b, h1, h2, h3⟩ := laidA_mem k h hi
  have hb : a.block = b := by
    rcases (blkA_mem h2).2 with ⟨-, rfl⟩ | ⟨j, q, -, -, rfl⟩ <;> rfl
  refine ⟨b, hb, h1, (blkA_mem h2).1, h3, ?_⟩
  refine Nat.lt_of_not_le fun hge => ?_
  obtain ⟨r, hr, hr2⟩ := laidA_app (bs := bs) (H := H) (o := o) (k := b + 1) (k - (b + 1))
  rw [Nat.add_sub_cancel' (by omega)] at hr
  rw [hr, List.getElem?_append_right hge] at h
  obtain ⟨c, h4, h5, h6⟩ := hr2 a (List.mem_of_getElem? h)
  have hc : a.block = c := by
    rcases (blkA_mem h6).2 with ⟨-, rfl⟩ | ⟨j, q, -, -, rfl⟩ <;> rfl
  omega
/-- the accesses of block b lie between two marks -/
theorem laidA_seg {n b i : Nat} (hb : b < n) (h1 : (laidA bs H o b).length ≤ i) (h2 : i < (laidA bs H o (b + 1)).length) : ∃ a, (laidA bs H o n)[i]? = some a ∧ a.block = b ∧ (blkA bs H o b)[i - (laidA bs H o b).length]? = some a := by
  obtain ⟨r, hr, hr2⟩ := laidA_app (bs := bs) (H := H) (o := o) (k := b + 1) (n - (b + 1))
  rw [Nat.add_sub_cancel' (by omega)] at hr
  have e : laidA bs H o (b + 1) = laidA bs H o b ++ blkA bs H o b := rfl
  rw [e, List.length_append] at h2
  have hl : i - (laidA bs H o b).length < (blkA bs H o b).length := by omega
  have hm := List.getElem?_eq_getElem hl
  refine ⟨_, ?_, ?_, hm⟩
  · rw [hr, List.getElem?_append_left (by rw [e, List.length_append]; omega), e, List.getElem?_append_right h1]
    exact hm
  · rcases (blkA_mem (List.mem_of_getElem? hm)).2 with ⟨-, h⟩ | ⟨j, q, -, -, h⟩ <;> rw [h]
theorem laidA_mark {b n : Nat} (hb : b ≤ n) : (laidA bs H o b).length ≤ (laidA bs H o n).length := by
  obtain ⟨r, hr, -⟩ := laidA_app (bs := bs) (H := H) (o := o) (k := b) (n - b)
  rw [Nat.add_sub_cancel' hb] at hr
  rw [hr, List.length_append]; omega
theorem laidA_sorted : ∀ k, ((laidA bs H o k).drop 1).Pairwise AccLt
  | 0 => by simp [laidA]
  | k + 1 => by
    show ((laidA bs H o k ++ blkA bs H o k).drop 1).Pairwise _
    rw [List.drop_append_of_le_length (laidA_pos k), List.pairwise_append]
    refine ⟨laidA_sorted k, blkA_sorted, fun a ha c hc => .inl ?_⟩
    obtain ⟨i, hi⟩ := List.mem_iff_getElem?.1 ha
    rw [List.getElem?_drop] at hi
    obtain ⟨b, h1, h2, -⟩ := laidA_block hi (by omega)
    have hc' : c.block = k := by rcases (blkA_mem hc).2 with ⟨-, rfl⟩ | ⟨j, q, -, -, rfl⟩ <;> rfl
    omega
theorem laidA_lt {k i j : Nat} {a c : Ac} (ha : (laidA bs H o k)[i]? = some a) (hc : (laidA bs H o k)[j]? = some c) (hi : 0 < i) (hij : i < j) : AccLt a c := by
  have h := laidA_sorted (bs := bs) (H := H) (o := o) k
  rw [List.pairwise_iff_getElem] at h
  have hjl := (List.getElem?_eq_some_iff.1 hc).1
  have h1 := h (i - 1) (j - 1) (by rw [List.length_drop]; omega) (by rw [List.length_drop]; omega) (by omega)
  rw [List.getElem_drop, List.getElem_drop] at h1
  have ea := (List.getElem?_eq_some_iff.1 ha).2
  have ec := (List.getElem?_eq_some_iff.1 hc).2
  have e1 : 1 + (i - 1) = i := by omega
  have e2 : 1 + (j - 1) = j := by omega
  simp only [e1, e2] at h1
  rwa [ea, ec] at h1
end
/-- the last of the first m accesses behind the entry that lies in block b and may stand somewhere -/
def LastC (L : List Ac) (b : Int) (m : Nat) : Prop := 0 < m ∧ ∃ a, L[m]? = some a ∧ a.block = b ∧ a.kind ≠ 2
open Classical in
noncomputable def lastD (L : List Ac) (b : Int) : Nat → Int
  | 0 => -1
  | m + 1 => if LastC L b m then (m : Int) else lastD L b m
/-- the same below a position -/
def BestC (L : List Ac) (b p : Int) (m : Nat) : Prop := 0 < m ∧ ∃ a, L[m]? = some a ∧ a.block = b ∧ a.kind ≠ 2 ∧ a.pos < p
open Classical in
noncomputable def bestF (L : List Ac) (b p : Int) : Nat → Int
  | 0 => -1
  | m + 1 => if BestC L b p m then (m : Int) else bestF L b p m
section
variable {L : List Ac} {b p : Int} {m c : Nat}
theorem lastD_hit (h : LastC L b m) : lastD L b (m + 1) = m := by unfold lastD; exact if_pos h
theorem lastD_skip (h : ¬ LastC L b m) : lastD L b (m + 1) = lastD L b m := by rw [lastD]; exact if_neg h
theorem bestF_hit (h : BestC L b p m) : bestF L b p (m + 1) = m := by unfold bestF; exact if_pos h
theorem bestF_skip (h : ¬ BestC L b p m) : bestF L b p (m + 1) = bestF L b p m := by rw [bestF]; exact if_neg h
theorem lastD_range : ∀ m, lastD L b m = -1 ∨ ∃ i : Nat, lastD L b m = i ∧ i < m ∧ LastC L b i
  | 0 => .inl rfl
  | m + 1 => by
    by_cases h : LastC L b m
    · exact .inr ⟨m, lastD_hit h, Nat.lt_succ_self _, h⟩
    · rw [lastD_skip h]
      rcases lastD_range m with h1 | ⟨i, h1, h2, h3⟩
      · exact .inl h1
      · exact .inr ⟨i, h1, by omega, h3⟩
theorem lastD_none {i : Nat} (h : ∀ j, j < i → ¬ LastC L b j) : lastD L b i = -1 := by
  rcases lastD_range (L := L) (b := b) i with h1 | ⟨j, -, h2, h3⟩
  · exact h1
  · exact absurd h3 (h j h2)
theorem lastD_more {i : Nat} : ∀ m, i ≤ m → (∀ j, i ≤ j → j < m → ¬ LastC L b j) → lastD L b m = lastD L b i
  | 0, hi, _ => by rw [Nat.le_zero.1 hi]
  | m + 1, hi, h => by
    rcases Nat.lt_or_ge m i with h1 | h1
    · have : i = m + 1 := by omega
      rw [this]
    · rw [lastD_skip (h m h1 (Nat.lt_succ_self _))]
      exact lastD_more m h1 fun j h2 h3 => h j h2 (by omega)
theorem best_last (h : ∀ (i : Nat) a, L[i]? = some a → 0 < i → a.block = b → (a.pos < p ↔ i < c)) : ∀ m, bestF L b p m = lastD L b (min m c)
  | 0 => by rw [Nat.zero_min]; rfl
  | m + 1 => by
    have ih := best_last h m
    by_cases hc : m < c
    · rw [Nat.min_eq_left (show m + 1 ≤ c by omega)]
      rw [Nat.min_eq_left (show m ≤ c by omega)] at ih
      by_cases h1 : LastC L b m
      · obtain ⟨h2, a, h3, h4, h5⟩ := h1
        rw [lastD_hit ⟨h2, a, h3, h4, h5⟩, bestF_hit ⟨h2, a, h3, h4, h5, (h m a h3 h2 h4).2 hc⟩]
      · rw [lastD_skip h1, bestF_skip fun ⟨h2, a, h3, h4, h5, _⟩ => h1 ⟨h2, a, h3, h4, h5⟩, ih]
    · rw [Nat.min_eq_right (show c ≤ m + 1 by omega)]
      rw [Nat.min_eq_right (show c ≤ m by omega)] at ih
      rw [bestF_skip fun ⟨h2, a, h3, h4, _, h6⟩ => hc ((h m a h3 h2 h4).1 h6), ih]
end
/-- what stands at the end of block b: k steps up -/
noncomputable def endK (L : List Ac) (l : List Int) : Nat → Nat → Int
  | 0, _ => -1
  | k + 1, b => if 0 ≤ lastD L b L.length then lastD L b L.length else if b = 0 then 0 else endK L l k (l.getD b (-1)).toNat
noncomputable def endF (L : List Ac) (l o : List Int) (b : Nat) : Int := endK L l (o.idxOf (b : Int) + 1) b
/-- what stands in block b where r is the last access ahead in it -/
noncomputable def stF (L : List Ac) (l o : List Int) (b : Nat) (r : Int) : Int := if 0 ≤ r then r else if b = 0 then 0 else endF L l o (l.getD b (-1)).toNat
section
variable {L : List Ac} {l o : List Int} {sc : Int → List Int} {n b : Nat}
theorem up_at (I : IdomOk sc o n l) (O : OrderOk n sc o) (hb : (b : Int) ∈ o) (hb0 : b ≠ 0) : ∃ u : Nat, l[b]? = some (u : Int) ∧ (l.getD b (-1)).toNat = u ∧ u < n ∧ (u : Int) ∈ o ∧ o.idxOf (u : Int) < o.idxOf (b : Int) := by
  have hbn := (O.bound _ hb).2
  obtain ⟨u, h1, h2, -, h3, -⟩ := I.some_ b (by omega) hb hb0
  obtain ⟨h4, h5⟩ := O.bound _ h2
  obtain ⟨k, rfl⟩ := Int.eq_ofNat_of_zero_le h4
  exact ⟨k, h1, by rw [List.getD_eq_getElem?_getD, h1]; simp, by omega, h2, h3⟩
theorem endK_any (I : IdomOk sc o n l) (O : OrderOk n sc o) : ∀ (k k' b : Nat), (b : Int) ∈ o → o.idxOf (b : Int) < k → o.idxOf (b : Int) < k' → endK L l k b = endK L l k' b
  | 0, _, _, _, h, _ => by omega
  | _ + 1, 0, _, _, _, h => by omega
  | k + 1, k' + 1, b, hb, h, h' => by
    rw [endK, endK]
    by_cases h0 : b = 0
    · simp only [if_pos h0]
    · obtain ⟨u, -, e, -, h2, h3⟩ := up_at I O hb h0
      rw [e, endK_any I O k k' u h2 (by omega) (by omega)]
theorem endF_eq (I : IdomOk sc o n l) (O : OrderOk n sc o) (hb : (b : Int) ∈ o) : endF L l o b = stF L l o b (lastD L b L.length) := by
  unfold endF stF
  rw [endK]
  by_cases h0 : b = 0
  · simp only [if_pos h0]
  · obtain ⟨u, -, e, -, h2, h3⟩ := up_at I O hb h0
    rw [e]
    unfold endF
    rw [endK_any I O (o.idxOf (b : Int)) (o.idxOf (u : Int) + 1) u h2 h3 (Nat.lt_succ_self _)]
theorem endK_bound (I : IdomOk sc o n l) (O : OrderOk n sc o) (hL : 0 < L.length) : ∀ (k b : Nat), (b : Int) ∈ o → o.idxOf (b : Int) < k → 0 ≤ endK L l k b ∧ endK L l k b < L.length
  | 0, _, _, h => by omega
  | k + 1, b, hb, h => by
    rw [endK]
    by_cases h1 : 0 ≤ lastD L b L.length
    · rw [if_pos h1]
      rcases lastD_range (L := L) (b := b) L.length with h2 | ⟨i, h2, h3, -⟩ <;> omega
    · rw [if_neg h1]
      by_cases h0 : b = 0
      · rw [if_pos h0]; omega
      · obtain ⟨u, -, e, -, h2, h3⟩ := up_at I O hb h0
        rw [if_neg h0, e]
        exact endK_bound I O hL k u h2 (by omega)
theorem endF_bound (I : IdomOk sc o n l) (O : OrderOk n sc o) (hL : 0 < L.length) (hb : (b : Int) ∈ o) : 0 ≤ endF L l o b ∧ endF L l o b < L.length := endK_bound I O hL _ _ hb (Nat.lt_succ_self _)
theorem stF_up (h0 : b ≠ 0) {u : Nat} (hu : l[b]? = some (u : Int)) {r : Int} (hr : r < 0) : stF L l o b r = endF L l o u := by
  unfold stF
  rw [if_neg (by omega), if_neg h0, List.getD_eq_getElem?_getD, hu]
  simp
theorem stF_top {r : Int} (hr : r < 0) : stF L l o 0 r = 0 := by
  unfold stF
  rw [if_neg (by omega), if_pos rfl]
theorem stF_here {r : Int} (hr : 0 ≤ r) : stF L l o b r = r := by
  unfold stF
  rw [if_pos hr]
theorem stF_bound (I : IdomOk sc o n l) (O : OrderOk n sc o) (hL : 0 < L.length) (hb : (b : Int) ∈ o) {i : Nat} (hi : i ≤ L.length) : 0 ≤ stF L l o b (lastD L b i) ∧ stF L l o b (lastD L b i) < L.length := by
  rcases lastD_range (L := L) (b := b) i with h2 | ⟨j, h2, h3, -⟩
  · rw [h2]
    by_cases h0 : b = 0
    · subst h0; rw [stF_top (by omega)]; omega
    · obtain ⟨u, hu, -, -, h4, -⟩ := up_at I O hb h0
      rw [stF_up h0 hu (by omega)]
      exact endF_bound I O hL h4
  · rw [h2, stF_here (by omega)]; omega
end
/-- the reachable predecessors of a block, rising -/
def fromL (P : List (List Int)) (o : List Int) (b : Int) : List Int := (P.getD b.toNat []).filter fun x => decide (x ∈ o)
/-- an access with what it stands on -/
noncomputable def accD (L : List Ac) (l o : List Int) (P : List (List Int)) (i : Nat) (a : Ac) : Ac :=
  if a.kind = 1 ∨ a.kind = 2 then ⟨a.kind, a.block, a.pos, [stF L l o a.block.toNat (lastD L a.block i)], a.orig⟩
  else if a.kind = 3 then ⟨a.kind, a.block, a.pos, (fromL P o a.block).map fun p => endF L l o p.toNat, fromL P o a.block⟩ else a
noncomputable def builtA (L : List Ac) (l o : List Int) (P : List (List Int)) : List Ac := L.mapIdx (accD L l o P)
theorem built_at {L : List Ac} {l o : List Int} {P : List (List Int)} {i : Nat} {a : Ac} (h : L[i]? = some a) : (builtA L l o P)[i]? = some (accD L l o P i a) := by
  unfold builtA
  rw [List.getElem?_mapIdx, h]; rfl
noncomputable def endsL (L : List Ac) (l o : List Int) (n : Nat) : List Int := (List.range n).map fun (b : Nat) => if (b : Int) ∈ o then endF L l o b else -1
theorem ends_at {L : List Ac} {l o : List Int} {n b : Nat} (h : b < n) : (endsL L l o n)[b]? = some (if (b : Int) ∈ o then endF L l o b else -1) := by simp [endsL, h]

/-! down the tree -/
structure SkI (L : List Ac) (l o : List Int) (n : Nat) (V : List Nat) (K : List (Nat × Int)) : Prop where
  vnd : V.Nodup
  vin : ∀ v, v ∈ V → v < n ∧ (v : Int) ∈ o
  par : ∀ c : Nat, c ∈ V → c ≠ 0 → ∃ u : Nat, l[c]? = some (u : Int) ∧ u ∈ V
  knd : (K.map Prod.fst).Nodup
  kin : ∀ b z, (b, z) ∈ K → b < n ∧ (b : Int) ∈ o ∧ b ∉ V ∧ ((b = 0 ∧ z = 0) ∨ b ≠ 0 ∧ ∃ u : Nat, l[b]? = some (u : Int) ∧ u ∈ V ∧ z = endF L l o u)
  root : 0 ∈ V ∨ 0 ∈ K.map Prod.fst
  kids : ∀ b c : Nat, b ∈ V → l[c]? = some (b : Int) → c ∈ V ∨ c ∈ K.map Prod.fst
/-- while the children of b are pushed -/
structure SkR (L : List Ac) (l o : List Int) (n : Nat) (V : List Nat) (K : List (Nat × Int)) (b i : Nat) : Prop where
  vnd : V.Nodup
  vin : ∀ v, v ∈ V → v < n ∧ (v : Int) ∈ o
  par : ∀ c : Nat, c ∈ V → c ≠ 0 → ∃ u : Nat, l[c]? = some (u : Int) ∧ u ∈ V
  knd : (K.map Prod.fst).Nodup
  kin : ∀ c z, (c, z) ∈ K → c < n ∧ (c : Int) ∈ o ∧ c ∉ V ∧ ((c = 0 ∧ z = 0) ∨ c ≠ 0 ∧ ∃ u : Nat, l[c]? = some (u : Int) ∧ u ∈ V ∧ z = endF L l o u)
  root : 0 ∈ V ∨ 0 ∈ K.map Prod.fst
  kids : ∀ b' c : Nat, b' ∈ V → b' ≠ b → l[c]? = some (b' : Int) → c ∈ V ∨ c ∈ K.map Prod.fst
  cur : b ∈ V
  fresh : ∀ c : Nat, l[c]? = some (b : Int) → c ∉ V
  new : ∀ c : Nat, l[c]? = some (b : Int) → (c ∈ K.map Prod.fst ↔ (c : Int) ∈ (childAt l b n).take i)
section
variable {L : List Ac} {l o : List Int} {sc : Int → List Int} {n b i : Nat} {V : List Nat} {K : List (Nat × Int)} {z : Int}
theorem sk_start (hn : 0 < n) (h0 : (0 : Int) ∈ o) : SkI L l o n [] [(0, 0)] :=
  by
  refine ⟨.nil, fun v h => (by cases h), fun c h => (by cases h), by simp, fun b z h => ?_, .inr (by simp), fun b c h => (by cases h)⟩
  rw [List.mem_singleton] at h
  cases h
  exact ⟨hn, h0, by simp, .inl ⟨rfl, rfl⟩⟩
theorem sk_size (h : SkI L l o n V K) : V.length ≤ n := by
  have h1 : ((List.range n).filter fun x => decide (x ∈ V)).length ≤ n := by
    have := List.length_filter_le (fun x => decide (x ∈ V)) (List.range n); simpa using this
  have h2 : V.Perm ((List.range n).filter fun x => decide (x ∈ V)) := by
    rw [List.perm_ext_iff_of_nodup h.vnd (List.nodup_range.filter _)]
    intro x
    simp only [List.mem_filter, List.mem_range, decide_eq_true_eq]
    exact ⟨fun hx => ⟨(h.vin x hx).1, hx⟩, fun hx => hx.2⟩
  rw [h2.length_eq]; exact h1
theorem sk_klen (h : SkI L l o n V K) : K.length ≤ n := by
  have h0 : (K.map Prod.fst).length = K.length := by simp
  have h1 : ((List.range n).filter fun x => decide (x ∈ K.map Prod.fst)).length ≤ n := by
    have := List.length_filter_le (fun x => decide (x ∈ K.map Prod.fst)) (List.range n); simpa using this
  have h2 : (K.map Prod.fst).Perm ((List.range n).filter fun x => decide (x ∈ K.map Prod.fst)) := by
    rw [List.perm_ext_iff_of_nodup h.knd (List.nodup_range.filter _)]
    intro x
    simp only [List.mem_filter, List.mem_range, decide_eq_true_eq]
    refine ⟨fun hx => ⟨?_, hx⟩, fun hx => hx.2⟩
    obtain ⟨⟨b, z⟩, h3, rfl⟩ := List.mem_map.1 hx
    exact (h.kin b z h3).1
  rw [← h0, h2.length_eq]; exact h1
theorem sk_pop (I : IdomOk sc o n l) (O : OrderOk n sc o) (h : SkI L l o n V (K ++ [(b, z)])) : SkR L l o n (V ++ [b]) K b 0 := by
  obtain ⟨h1, h2, h3, h4⟩ := h.kin b z (by simp)
  have hkn := h.knd
  rw [List.map_append, List.nodup_append] at hkn
  have hbK : b ∉ K.map Prod.fst := fun hm => hkn.2.2 b hm b (by simp) rfl
  have key : ∀ x, x ∈ V ∨ x ∈ (K ++ [(b, z)]).map Prod.fst → x ∈ V ++ [b] ∨ x ∈ K.map Prod.fst := fun x hx => by
    rcases hx with hx | hx
    · exact .inl (List.mem_append_left _ hx)
    · rw [List.map_append] at hx
      rcases List.mem_append.1 hx with hx | hx
      · exact .inr hx
      · exact .inl (List.mem_append_right _ hx)
  refine ⟨?_, fun v hv => ?_, fun c hc hc0 => ?_, hkn.1, fun c y hc => ?_, key 0 h.root, fun b' c hb' hne hc => ?_, by simp, fun c hc hm => ?_, fun c hc => ?_⟩
  · rw [List.nodup_append]
    exact ⟨h.vnd, by simp, fun a ha c hc e => h3 (by rw [List.mem_singleton.1 hc] at e; rw [← e]; exact ha)⟩
  · rcases List.mem_append.1 hv with hv | hv
    · exact h.vin v hv
    · rw [List.mem_singleton.1 hv]; exact ⟨h1, h2⟩
  · rcases List.mem_append.1 hc with hc | hc
    · obtain ⟨u, h5, h6⟩ := h.par c hc hc0
      exact ⟨u, h5, List.mem_append_left _ h6⟩
    · have e := List.mem_singleton.1 hc
      subst e
      rcases h4 with ⟨h4, -⟩ | ⟨-, u, h5, h6, -⟩
      · exact absurd h4 hc0
      · exact ⟨u, h5, List.mem_append_left _ h6⟩
  · obtain ⟨h5, h6, h7, h8⟩ := h.kin c y (List.mem_append_left _ hc)
    refine ⟨h5, h6, fun hm => ?_, ?_⟩
    · rcases List.mem_append.1 hm with hm | hm
      · exact h7 hm
      · rw [List.mem_singleton.1 hm] at hc
        exact hbK (List.mem_map.2 ⟨_, hc, rfl⟩)
    · rcases h8 with h8 | ⟨h8, u, h9, h10, h11⟩
      · exact .inl h8
      · exact .inr ⟨h8, u, h9, List.mem_append_left _ h10, h11⟩
  · rcases List.mem_append.1 hb' with hb' | hb'
    · exact key c (h.kids b' c hb' hc)
    · exact absurd (List.mem_singleton.1 hb') hne
  · have hc0 : c ≠ 0 := fun e => by
      subst e
      rw [I.none_ 0 (by omega) (.inr rfl)] at hc
      have := Option.some.inj hc
      omega
    rcases List.mem_append.1 hm with hm | hm
    · obtain ⟨u, h5, h6⟩ := h.par c hm hc0
      rw [hc] at h5
      have e : b = u := by have := Option.some.inj h5; omega
      rw [← e] at h6
      exact h3 h6
    · have e := List.mem_singleton.1 hm
      subst e
      obtain ⟨u, h5, -, h6, -⟩ := I.some_ c h1 h2 hc0
      rw [hc] at h5
      exact h6 (Option.some.inj h5).symm
  · refine ⟨fun hm => ?_, fun hm => by simp at hm⟩
    obtain ⟨⟨c', y⟩, h5, rfl⟩ := List.mem_map.1 hm
    obtain ⟨-, -, -, h8⟩ := h.kin c' y (List.mem_append_left _ h5)
    rcases h8 with ⟨h8, -⟩ | ⟨h8, u, h9, h10, h11⟩
    · have hc' : l[c']? = some (b : Int) := hc
      rw [h8, I.none_ 0 (by omega) (.inr rfl)] at hc'
      have := Option.some.inj hc'
      omega
    · have hc' : l[c']? = some (b : Int) := hc
      rw [hc'] at h9
      have e : b = u := by have := Option.some.inj h9; omega
      rw [← e] at h10
      exact absurd h10 h3
theorem sk_push (I : IdomOk sc o n l) (O : OrderOk n sc o) (h : SkR L l o n V K b i) {t : Nat} (ht : (childAt l b n)[i]? = some (t : Int)) : SkR L l o n V (K ++ [(t, endF L l o b)]) b (i + 1) := by
  obtain ⟨t', e, ht1, ht2⟩ := child_mem.1 (List.mem_of_getElem? ht)
  have e2 : t' = t := by omega
  subst e2
  have hsort := child_sorted l b n
  have hil := (List.getElem?_eq_some_iff.1 ht).1
  have hnot : (t' : Int) ∉ (childAt l b n).take i := fun hm => by
    obtain ⟨j, hj⟩ := List.mem_iff_getElem?.1 hm
    rw [List.getElem?_take] at hj
    split at hj
    · rename_i hji
      have hjl := (List.getElem?_eq_some_iff.1 hj).1
      have h1 := (List.pairwise_iff_getElem.1 hsort) j i hjl hil hji
      rw [(List.getElem?_eq_some_iff.1 hj).2, (List.getElem?_eq_some_iff.1 ht).2] at h1
      omega
    · cases hj
  have htK : t' ∉ K.map Prod.fst := fun hm => hnot ((h.new t' ht2).1 hm)
  have hto : (t' : Int) ∈ o ∧ t' ≠ 0 := by
    refine ⟨Classical.byContradiction fun hno => ?_, fun h0 => ?_⟩
    · rw [I.none_ t' ht1 (.inl hno)] at ht2
      have := Option.some.inj ht2; omega
    · rw [I.none_ t' ht1 (.inr h0)] at ht2
      have := Option.some.inj ht2; omega
  have htV : t' ∉ V := h.fresh t' ht2
  have mono : ∀ x, x ∈ K.map Prod.fst → x ∈ (K ++ [(t', endF L l o b)]).map Prod.fst := fun x hx => by rw [List.map_append]; exact List.mem_append_left _ hx
  refine ⟨h.vnd, h.vin, h.par, ?_, fun c y hc => ?_, h.root.imp id (mono 0), fun b' c hb' hne hc => (h.kids b' c hb' hne hc).imp id (mono c), h.cur, h.fresh, fun c hc => ?_⟩
  · rw [List.map_append, List.nodup_append]
    exact ⟨h.knd, by simp, fun a ha c hc e => htK (by have := List.mem_singleton.1 hc; rw [this] at e; rw [e] at ha; exact ha)⟩
  · rcases List.mem_append.1 hc with hc | hc
    · exact h.kin c y hc
    · have := List.mem_singleton.1 hc
      cases this
      exact ⟨ht1, hto.1, htV, .inr ⟨hto.2, b, ht2, h.cur, rfl⟩⟩
  · rw [take_snoc ht, List.map_append, List.mem_append, List.mem_append, h.new c hc]
    have : c ∈ [(t', endF L l o b)].map Prod.fst ↔ (c : Int) ∈ [(t' : Int)] := by simp; omega
    rw [this]
theorem sk_next (h : SkR L l o n V K b (childAt l b n).length) (hl : l.length = n) : SkI L l o n V K :=
  ⟨h.vnd, h.vin, h.par, h.knd, h.kin, h.root, fun b' c hb' hc => by
    by_cases e : b' = b
    · subst e
      refine .inr ((h.new c hc).2 ?_)
      rw [List.take_length]
      exact child_mem.2 ⟨c, rfl, by rw [← hl]; exact (List.getElem?_eq_some_iff.1 hc).1, hc⟩
    · exact h.kids b' c hb' e hc⟩
theorem sk_done (I : IdomOk sc o n l) (O : OrderOk n sc o) (h : SkI L l o n V []) : ∀ (k b : Nat), (b : Int) ∈ o → o.idxOf (b : Int) < k → b ∈ V
  | 0, _, _, h => by omega
  | k + 1, b, hb, hk => by
    by_cases h0 : b = 0
    · subst h0
      rcases h.root with h1 | h1
      · exact h1
      · cases h1
    · obtain ⟨u, hu, -, -, h2, h3⟩ := up_at I O hb h0
      rcases h.kids u b (sk_done I O h k u h2 (by omega)) hu with h4 | h4
      · exact h4
      · cases h4
/-- what stands at the start of the block that is taken -/
theorem sk_on (h : SkI L l o n V (K ++ [(b, z)])) (i : Nat) (hi : lastD L (b : Int) i = -1) : z = stF L l o b (lastD L (b : Int) i) := by
  obtain ⟨-, -, -, h4⟩ := h.kin b z (by simp)
  rw [hi]
  rcases h4 with ⟨h5, h6⟩ | ⟨h5, u, h6, -, h7⟩
  · subst h5; rw [h6, stF_top (by omega)]
  · rw [h7, stF_up h5 h6 (by omega)]
theorem stF_cong {r r' : Int} (h : r = r') : stF L l o b r = stF L l o b r' := by rw [h]
end
end Go.Proofs.Yteeclobpajalmaa
