/- The blocks of a loop, the plain side: the work list of loops.Find and the rounds of latheref13.Blocks end at one set. No condition. | The rounds of latheref13.Blocks, and the gathering of the blocks; no program is in sight. No condition. | The loops of a function as data: headers, exits, depths; what is known while they are gathered. No condition. | Rows of loops in the heap: each loop with three rows of numbers of its own. No condition. -/
import Derived.Test.YteeclobpajalmaaDoJ
import Derived.Test.YteeclobpajalmaaGrV
import Derived.Test.YteeclobpajalmaaLoB
import Derived.Test.YteeclobpajalmaaGrJ
namespace Go.Proofs.Yteeclobpajalmaa
set_option linter.unusedVariables false
set_option linter.unusedSimpArgs false

/-- the blocks of h's loop, whose latches are lat -/
inductive LpIn (sc : Int → List Int) (o lat : List Int) (h : Int) : Int → Prop
  | head : LpIn sc o lat h h
  | latch {x : Int} : x ∈ lat → LpIn sc o lat h x
  | back {b s : Int} : b ∈ o → s ∈ sc b → s ≠ h → LpIn sc o lat h s → LpIn sc o lat h b
/-- the work list: H has been met, K is to be looked at -/
structure WkS (sc : Int → List Int) (o lat : List Int) (h : Int) (H K : List Int) : Prop where
  sound : ∀ x, x ∈ H → LpIn sc o lat h x
  work : ∀ x, x ∈ K → x ∈ o → LpIn sc o lat h x
  head : h ∈ H
  latch : ∀ x, x ∈ lat → x ∈ H ∨ x ∈ K
  back : ∀ b s, s ∈ H → s ≠ h → b ∈ o → s ∈ sc b → b ∈ H ∨ b ∈ K
section
variable {sc : Int → List Int} {o lat H K p : List Int} {h b x : Int}
theorem WkS.start (hl : ∀ x, x ∈ lat → x ∈ o) : WkS sc o lat h [h] lat :=
  ⟨fun x hx => by rw [List.mem_singleton.1 hx]; exact .head, fun x hx _ => .latch hx, List.mem_singleton.2 rfl, fun x hx => .inr hx,
   fun b s hs hne _ _ => absurd (List.mem_singleton.1 hs) hne⟩
/-- b taken off the end of the list, and not looked at -/
theorem WkS.skip (hl : ∀ x, x ∈ lat → x ∈ o) (W : WkS sc o lat h H (K ++ [b])) (hb : b ∈ H ∨ b ∉ o) : WkS sc o lat h H K := by
  refine ⟨W.sound, fun x hx => W.work x (List.mem_append_left _ hx), W.head, fun x hx => ?_, fun b' s hs hne ho hsc => ?_⟩
  · rcases W.latch x hx with g | g
    · exact .inl g
    · rcases List.mem_append.1 g with g | g
      · exact .inr g
      · have e := List.mem_singleton.1 g
        subst e
        exact .inl (hb.resolve_right fun hn => hn (hl x hx))
  · rcases W.back b' s hs hne ho hsc with g | g
    · exact .inl g
    · rcases List.mem_append.1 g with g | g
      · exact .inr g
      · have e := List.mem_singleton.1 g
        subst e
        exact .inl (hb.resolve_right fun hn => hn ho)
/-- b taken off the end of the list; its predecessors p are put on it -/
theorem WkS.take (W : WkS sc o lat h H (K ++ [b])) (hb : b ∉ H) (ho : b ∈ o) (hp : ∀ x, x ∈ p → b ∈ sc x) (hp2 : ∀ x, x ∈ o → b ∈ sc x → x ∈ p) : WkS sc o lat h (H ++ [b]) (K ++ p) := by
  have hbin : LpIn sc o lat h b := W.work b (by simp) ho
  have hbh : b ≠ h := fun e => hb (e ▸ W.head)
  refine ⟨fun x hx => ?_, fun x hx hxo => ?_, List.mem_append_left _ W.head, fun x hx => ?_, fun b' s hs hne ho' hsc => ?_⟩
  · rcases List.mem_append.1 hx with g | g
    · exact W.sound x g
    · rw [List.mem_singleton.1 g]; exact hbin
  · rcases List.mem_append.1 hx with g | g
    · exact W.work x (List.mem_append_left _ g) hxo
    · exact .back hxo (hp x g) hbh hbin
  · rcases W.latch x hx with g | g
    · exact .inl (List.mem_append_left _ g)
    · rcases List.mem_append.1 g with g | g
      · exact .inr (List.mem_append_left _ g)
      · exact .inl (List.mem_append_right _ g)
  · rcases List.mem_append.1 hs with g | g
    · rcases W.back b' s g hne ho' hsc with g | g
      · exact .inl (List.mem_append_left _ g)
      · rcases List.mem_append.1 g with g | g
        · exact .inr (List.mem_append_left _ g)
        · exact .inl (List.mem_append_right _ g)
    · have e := List.mem_singleton.1 g
      subst e
      exact .inr (List.mem_append_right _ (hp2 b' ho' hsc))
theorem WkS.done (W : WkS sc o lat h H []) : x ∈ H ↔ LpIn sc o lat h x := by
  refine ⟨W.sound x, fun g => ?_⟩
  induction g with
  | head => exact W.head
  | latch g => exact (W.latch _ g).resolve_right (by simp)
  | back ho hs hne _ ih => exact (W.back _ _ ih hne ho hs).resolve_right (by simp)
/-- the definition's rounds: nothing more is found -/
theorem round_done (q : Int → Prop) (hs : ∀ x, q x → LpIn sc o lat h x) (h0 : q h) (hl : ∀ x, x ∈ lat → q x) (hr : ∀ b, b ∈ o → ¬ q b → ∀ s, s ∈ sc b → s ≠ h → ¬ q s) : q x ↔ LpIn sc o lat h x := by
  refine ⟨hs x, fun g => ?_⟩
  induction g with
  | head => exact h0
  | latch g => exact hl _ g
  | back ho hs hne _ ih => exact Classical.byContradiction fun hn => hr _ ho hn _ hs hne ih
end
open Classical in
noncomputable def lpB (sc : Int → List Int) (o lat : List Int) (h x : Int) : Bool := decide (LpIn sc o lat h x)
theorem lpB_iff {sc : Int → List Int} {o lat : List Int} {h x : Int} : lpB sc o lat h x = true ↔ LpIn sc o lat h x := by unfold lpB; exact @decide_eq_true_iff _ (Classical.propDecidable _)
/-- the loop's blocks, in order -/
noncomputable def lpL (sc : Int → List Int) (o lat : List Int) (h : Int) (n : Nat) : List Int := ((List.range n).filter fun (b : Nat) => lpB sc o lat h b).map Int.ofNat
theorem lpL_mem {sc : Int → List Int} {o lat : List Int} {h x : Int} {n : Nat} : x ∈ lpL sc o lat h n ↔ (0 ≤ x ∧ x < n ∧ LpIn sc o lat h x) := by
  unfold lpL
  simp only [List.mem_map, List.mem_filter, List.mem_range, lpB_iff]
  constructor
  · rintro ⟨k, ⟨h1, h2⟩, rfl⟩
    exact ⟨by simp, by simpa using h1, h2⟩
  · rintro ⟨h1, h2, h3⟩
    obtain ⟨k, rfl⟩ := Int.eq_ofNat_of_zero_le h1
    exact ⟨k, ⟨by omega, h3⟩, rfl⟩
theorem LpIn.inside {sc : Int → List Int} {o lat : List Int} {h x : Int} (hh : h ∈ o) (hl : ∀ x, x ∈ lat → x ∈ o) (g : LpIn sc o lat h x) : x ∈ o := by
  cases g with
  | head => exact hh
  | latch g => exact hl _ g
  | back ho _ _ _ => exact ho
end Go.Proofs.Yteeclobpajalmaa

namespace Go.Proofs.Yteeclobpajalmaa
set_option linter.unusedVariables false
set_option linter.unusedSimpArgs false

/-- no block of s outside h is in l -/
def NoneAt (sc : Int → List Int) (h : Int) (l : List Bool) (b i : Nat) : Prop := ∀ t : Nat, (t : Int) ∈ (sc b).take i → (t : Int) ≠ h → l[t]? = some false
structure BkI (sc : Int → List Int) (o lat : List Int) (h : Int) (n : Nat) (l0 l : List Bool) (more : Bool) : Prop where
  len : l.length = n
  sound : ∀ k : Nat, l[k]? = some true → LpIn sc o lat h k
  keep : ∀ k : Nat, l0[k]? = some true → l[k]? = some true
  same : more = false → l = l0
  le : l.count false ≤ l0.count false
  less : more = true → l.count false < l0.count false
/-- within a round that began with l0 -/
structure BkR (sc : Int → List Int) (o lat : List Int) (h : Int) (n : Nat) (l0 l : List Bool) (more : Bool) (d : Nat) : Prop where
  inv : BkI sc o lat h n l0 l more
  closed : more = false → ∀ b : Nat, b < d → (b : Int) ∈ o → l[b]? = some false → NoneAt sc h l b (sc b).length
structure BkIn (sc : Int → List Int) (o lat : List Int) (h : Int) (n : Nat) (l0 l : List Bool) (more : Bool) (d i : Nat) : Prop where
  rnd : BkR sc o lat h n l0 l more d
  mem : (d : Int) ∈ o
  here : more = false → NoneAt sc h l d i
/-- between two rounds -/
structure BkO (sc : Int → List Int) (o lat : List Int) (h : Int) (n : Nat) (l : List Bool) (more : Bool) : Prop where
  len : l.length = n
  sound : ∀ k : Nat, l[k]? = some true → LpIn sc o lat h k
  head : ∀ k : Nat, (k : Int) = h → l[k]? = some true
  latch : ∀ k : Nat, (k : Int) ∈ lat → l[k]? = some true
  closed : more = false → ∀ b : Nat, b < n → (b : Int) ∈ o → l[b]? = some false → NoneAt sc h l b (sc b).length
/-- the row of flags so far: h and the first i latches -/
structure BkL (lat : List Int) (h n : Nat) (l : List Bool) (i : Nat) : Prop where
  len : l.length = n
  iff : ∀ k : Nat, k < n → (l[k]? = some true ↔ (k = h ∨ (k : Int) ∈ lat.take i))
section
variable {sc : Int → List Int} {o lat : List Int} {h : Int} {n d i : Nat} {l0 l : List Bool} {more : Bool}
theorem bkL_start {a : Nat} (ha : a < n) : BkL lat a n ((List.replicate n false).set a true) 0 := ⟨by simp, fun k hk => by
  by_cases e : a = k
  · subst e
    rw [List.getElem?_set_self (by simpa using ha)]
    simp
  · rw [List.getElem?_set_ne e, List.getElem?_replicate, if_pos hk]
    have : ¬ k = a := fun e2 => e e2.symm
    simp [this]⟩
theorem bkL_next {a t : Nat} (H : BkL lat a n l i) (ht : lat[i]? = some (t : Int)) (htn : t < n) : BkL lat a n (l.set t true) (i + 1) := ⟨by rw [List.length_set]; exact H.len, fun k hk => by
  rw [List.take_add_one, ht]
  by_cases e : t = k
  · subst e
    rw [List.getElem?_set_self (by rw [H.len]; exact htn)]
    simp
  · rw [List.getElem?_set_ne e, H.iff k hk]
    have h2 : ¬ ((k : Int) = (t : Int)) := fun e2 => e (by omega)
    simp only [Option.toList_some, List.mem_append, List.mem_singleton, h2, or_false]⟩
theorem bkL_end {a : Nat} (H : BkL lat a n l lat.length) (ha : a < n) (hl : ∀ x, x ∈ lat → 0 ≤ x ∧ x < n) : BkO sc o lat a n l true := by
  refine ⟨H.len, fun k hk => ?_, fun k hk => ?_, fun k hk => ?_, fun h => by cases h⟩
  · have hkn : k < n := by have := (List.getElem?_eq_some_iff.1 hk).1; rwa [H.len] at this
    rcases (H.iff k hkn).1 hk with g | g
    · rw [g]; exact .head
    · rw [List.take_length] at g; exact .latch g
  · have e : k = a := by omega
    subst e
    exact (H.iff k ha).2 (.inl rfl)
  · exact (H.iff k (by have := (hl _ hk).2; omega)).2 (.inr (by rw [List.take_length]; exact hk))
theorem bkR_start (H : BkO sc o lat h n l true) : BkR sc o lat h n l l false 0 := ⟨⟨H.len, H.sound, fun _ h => h, fun _ => rfl, Nat.le_refl _, fun h => by cases h⟩, fun _ b hb => by omega⟩
theorem bkR_in (H : BkR sc o lat h n l0 l more d) (hd : (d : Int) ∈ o) : BkIn sc o lat h n l0 l more d 0 := ⟨H, hd, fun _ t ht => by rw [List.take_zero] at ht; cases ht⟩
theorem bkR_skip (H : BkR sc o lat h n l0 l more d) (hd : l[d]? = some true ∨ (d : Int) ∉ o) : BkR sc o lat h n l0 l more (d + 1) := ⟨H.inv, fun hm b hb ho hl => by
  by_cases e : b = d
  · subst e
    rcases hd with g | g
    · rw [g] at hl; cases hl
    · exact absurd ho g
  · exact H.closed hm b (by omega) ho hl⟩
theorem bkI_skip {t : Nat} (H : BkIn sc o lat h n l0 l more d i) (ht : (sc d)[i]? = some (t : Int)) (hk : (t : Int) = h ∨ l[t]? = some false) : BkIn sc o lat h n l0 l more d (i + 1) := ⟨H.rnd, H.mem, fun hm t' ht' hne => by
  rw [List.take_add_one, ht] at ht'
  rcases List.mem_append.1 ht' with g | g
  · exact H.here hm t' g hne
  · have e : (t' : Int) = t := by simpa using g
    have e' : t' = t := by omega
    subst e'
    exact hk.resolve_left hne⟩
theorem bkI_mark {t : Nat} (H : BkIn sc o lat h n l0 l more d i) (hdn : d < n) (ht : (sc d)[i]? = some (t : Int)) (hne : (t : Int) ≠ h) (hk : l[t]? = some true) (hd0 : l0[d]? = some false) : BkIn sc o lat h n l0 (l.set d true) true d (i + 1) := by
  have hin : LpIn sc o lat h d := .back H.mem (List.mem_of_getElem? ht) hne (H.rnd.inv.sound t hk)
  obtain ⟨b, hb⟩ : ∃ b, l[d]? = some b := ⟨_, List.getElem?_eq_getElem (by rw [H.rnd.inv.len]; exact hdn)⟩
  have hless : (l.set d true).count false < l0.count false := by
    cases b with
    | true =>
      have e : l.set d true = l := by
        refine List.ext_getElem? fun k => ?_
        by_cases e : d = k
        · subst e; rw [List.getElem?_set_self (by rw [H.rnd.inv.len]; exact hdn), hb]
        · rw [List.getElem?_set_ne e]
      rw [e]
      cases hm : more with
      | true => exact H.rnd.inv.less hm
      | false =>
        have := H.rnd.inv.same hm
        rw [this, hd0] at hb
        cases hb
    | false =>
      have := count_set hb
      have := H.rnd.inv.le
      omega
  refine ⟨⟨⟨by rw [List.length_set]; exact H.rnd.inv.len, fun k hk => ?_, fun k hk => ?_, (fun h => by cases h), by omega, fun _ => hless⟩, fun h => by cases h⟩, H.mem, fun h => by cases h⟩
  · by_cases e : d = k
    · subst e; exact hin
    · rw [List.getElem?_set_ne e] at hk; exact H.rnd.inv.sound k hk
  · by_cases e : d = k
    · subst e; exact List.getElem?_set_self (by rw [H.rnd.inv.len]; exact hdn)
    · rw [List.getElem?_set_ne e]; exact H.rnd.inv.keep k hk
theorem bkI_end (H : BkIn sc o lat h n l0 l more d (sc d).length) : BkR sc o lat h n l0 l more (d + 1) := ⟨H.rnd.inv, fun hm b hb ho hl => by
  by_cases e : b = d
  · subst e; exact H.here hm
  · exact H.rnd.closed hm b (by omega) ho hl⟩
theorem bkR_out (O0 : BkO sc o lat h n l0 true) (H : BkR sc o lat h n l0 l more n) : BkO sc o lat h n l more := ⟨H.inv.len, H.inv.sound, fun k hk => H.inv.keep k (O0.head k hk), fun k hk => H.inv.keep k (O0.latch k hk), H.closed⟩
theorem bkO_end (hs : ∀ b, SuccOk n (sc b)) (h0 : 0 ≤ h) (ho : ∀ x, x ∈ o → 0 ≤ x ∧ x < n) (hl : ∀ x, x ∈ lat → 0 ≤ x ∧ x < n) (hhn : h < n) (H : BkO sc o lat h n l false) (k : Nat) (hk : k < n) : l[k]? = some (lpB sc o lat h k) := by
  have key : ∀ x : Int, (0 ≤ x ∧ l[x.toNat]? = some true) ↔ LpIn sc o lat h x := by
    intro x
    refine round_done (fun x => 0 ≤ x ∧ l[x.toNat]? = some true) (fun x hx => by have := H.sound _ hx.2; rwa [Int.toNat_of_nonneg hx.1] at this) ⟨h0, H.head _ (by omega)⟩ (fun x hx => ⟨(hl x hx).1, H.latch _ (by rwa [Int.toNat_of_nonneg (hl x hx).1])⟩) fun b hb hnb s hsb hne hq => ?_
    have hb0 := ho b hb
    have hbn : b.toNat < n := by omega
    obtain ⟨v, hv⟩ : ∃ v, l[b.toNat]? = some v := ⟨_, List.getElem?_eq_getElem (by rw [H.len]; exact hbn)⟩
    cases v with
    | true => exact hnb ⟨hb0.1, hv⟩
    | false =>
      have hbe : ((b.toNat : Nat) : Int) = b := Int.toNat_of_nonneg hb0.1
      have hse : ((s.toNat : Nat) : Int) = s := Int.toNat_of_nonneg hq.1
      have := H.closed rfl b.toNat hbn (by rwa [hbe]) hv s.toNat (by rw [hbe, hse, List.take_length]; exact hsb) (by rwa [hse])
      rw [hq.2] at this
      cases this
  have h1 := key k
  rw [Int.toNat_natCast] at h1
  obtain ⟨v, hv⟩ : ∃ v, l[k]? = some v := ⟨_, List.getElem?_eq_getElem (by rw [H.len]; exact hk)⟩
  rw [hv]
  rw [hv] at h1
  congr 1
  rw [Bool.eq_iff_iff, lpB_iff, ← h1]
  simp
theorem lpL_step : lpL sc o lat h (i + 1) = lpL sc o lat h i ++ (if lpB sc o lat h i = true then [(i : Int)] else []) := by
  unfold lpL
  rw [List.range_succ, List.filter_append, List.map_append]
  by_cases e : lpB sc o lat h i = true
  · simp [e]
  · simp [e]
theorem lpL_zero : lpL sc o lat h 0 = [] := rfl
theorem lpL_len : (lpL sc o lat h n).length ≤ n := by
  unfold lpL
  rw [List.length_map]
  exact Nat.le_trans (List.length_filter_le ..) (by simp)
end
end Go.Proofs.Yteeclobpajalmaa

namespace Go.Proofs.Yteeclobpajalmaa
set_option linter.unusedVariables false
set_option linter.unusedSimpArgs false

structure Lp where
  head : Int
  blocks : List Int
  latch : List Int
  exits : List Int
  depth : Nat
noncomputable def exB (sc : Int → List Int) (lp : List Int) (t : Int) : Bool := decide (t ∉ lp ∧ ∃ b, b ∈ lp ∧ t ∈ sc b)
/-- a loop's exits, in order -/
noncomputable def exL (sc : Int → List Int) (lp : List Int) (n : Nat) : List Int := ((List.range n).filter fun (t : Nat) => exB sc lp t).map Int.ofNat
noncomputable def isH (sc : Int → List Int) (o : List Int) (P : List (List Int)) (h : Nat) : Bool := decide (latF sc o P h ≠ [])
noncomputable def headsS (sc : Int → List Int) (o : List Int) (P : List (List Int)) (a : Nat) : List Nat := (List.range a).filter (isH sc o P)
noncomputable def bodyS (sc : Int → List Int) (o : List Int) (P : List (List Int)) (n h : Nat) : List Int := lpL sc o (latF sc o P h) h n
/-- how many of the loops of the headers below a block b lies in -/
noncomputable def inF (sc : Int → List Int) (o : List Int) (P : List (List Int)) (a : Nat) (b : Int) : Nat := ((headsS sc o P a).filter fun k => lpB sc o (latF sc o P k) k b).length
noncomputable def lp0 (sc : Int → List Int) (o : List Int) (P : List (List Int)) (n h : Nat) : Lp := ⟨h, bodyS sc o P n h, latF sc o P h, exL sc (bodyS sc o P n h) n, 0⟩
noncomputable def lps0 (sc : Int → List Int) (o : List Int) (P : List (List Int)) (n a : Nat) : List Lp := (headsS sc o P a).map (lp0 sc o P n)
noncomputable def lp1 (sc : Int → List Int) (o : List Int) (P : List (List Int)) (n h : Nat) : Lp := { lp0 sc o P n h with depth := inF sc o P n h }
/-- all loops -/
noncomputable def loopsS (sc : Int → List Int) (o : List Int) (P : List (List Int)) (n : Nat) : List Lp := (headsS sc o P n).map (lp1 sc o P n)
section
variable {sc : Int → List Int} {o lat lp : List Int} {P : List (List Int)} {n a h i : Nat} {t : Int}
theorem exB_iff : exB sc lp t = true ↔ t ∉ lp ∧ ∃ b, b ∈ lp ∧ t ∈ sc b := by unfold exB; exact decide_eq_true_iff
theorem exL_mem : t ∈ exL sc lp n ↔ (0 ≤ t ∧ t < n ∧ t ∉ lp ∧ ∃ b, b ∈ lp ∧ t ∈ sc b) := by
  unfold exL
  simp only [List.mem_map, List.mem_filter, List.mem_range, exB_iff]
  constructor
  · rintro ⟨k, ⟨h1, h2⟩, rfl⟩
    exact ⟨by simp, by simpa using h1, h2⟩
  · rintro ⟨h1, h2, h3⟩
    obtain ⟨k, rfl⟩ := Int.eq_ofNat_of_zero_le h1
    exact ⟨k, ⟨by omega, h3⟩, rfl⟩
theorem exL_step : exL sc lp (i + 1) = exL sc lp i ++ (if exB sc lp i = true then [(i : Int)] else []) := by
  unfold exL
  rw [List.range_succ, List.filter_append, List.map_append]
  by_cases e : exB sc lp i = true
  · simp [e]
  · simp [e]
theorem sorted_of_filter (q : Nat → Bool) : (((List.range n).filter q).map Int.ofNat).Pairwise (· < ·) := by
  rw [List.pairwise_map]
  exact ((List.pairwise_lt_range (n := n)).filter _).imp fun h => by simpa using h
theorem exL_sorted : (exL sc lp n).Pairwise (· < ·) := sorted_of_filter _
theorem lpL_sorted {x : Int} : (lpL sc o lat x n).Pairwise (· < ·) := sorted_of_filter _
theorem exL_len : (exL sc lp n).length ≤ n := by
  unfold exL
  rw [List.length_map]
  exact Nat.le_trans (List.length_filter_le ..) (by simp)
/-- two rising rows with the same members are one -/
theorem rising_unique : ∀ {l l' : List Int}, l.Pairwise (· < ·) → l'.Pairwise (· < ·) → (∀ x, x ∈ l ↔ x ∈ l') → l = l'
  | [], [], _, _, _ => rfl
  | [], y :: l', _, _, h => by have := (h y).2 (by simp); cases this
  | x :: l, [], _, _, h => by have := (h x).1 (by simp); cases this
  | x :: l, y :: l', h1, h2, h => by
    rw [List.pairwise_cons] at h1 h2
    have hxy : x = y := by
      rcases List.mem_cons.1 ((h x).1 (by simp)) with e | e
      · exact e
      · rcases List.mem_cons.1 ((h y).2 (by simp)) with e' | e'
        · exact e'.symm
        · have := h2.1 x e; have := h1.1 y e'; omega
    subst hxy
    congr 1
    refine rising_unique h1.2 h2.2 fun z => ⟨fun hz => ?_, fun hz => ?_⟩
    · rcases List.mem_cons.1 ((h z).1 (List.mem_cons_of_mem _ hz)) with e | e
      · have := h1.1 z hz; omega
      · exact e
    · rcases List.mem_cons.1 ((h z).2 (List.mem_cons_of_mem _ hz)) with e | e
      · have := h2.1 z hz; omega
      · exact e
theorem sort_rising {l l' : List Int} (hn : l.Nodup) (hs : l'.Pairwise (· < ·)) (h : ∀ x, x ∈ l ↔ x ∈ l') : (l.mergeSort fun x y => decide (x ≤ y)) = l' := by
  have hp := List.mergeSort_perm l (fun x y : Int => decide (x ≤ y))
  have h1 : (l.mergeSort fun x y => decide (x ≤ y)).Pairwise (fun x y => decide (x ≤ y) = true) := List.pairwise_mergeSort (fun a b c h1 h2 => by simp at *; omega) (fun a b => by simp; omega) l
  have h2 : (l.mergeSort fun x y => decide (x ≤ y)).Nodup := hp.nodup_iff.2 hn
  refine rising_unique ((h1.and h2).imp fun {a b} hab => by have := hab.1; have := hab.2; simp at this; simp only [decide_eq_true_eq] at *; omega) hs fun x => by rw [hp.mem_iff]; exact h x
theorem headsS_step : headsS sc o P (a + 1) = headsS sc o P a ++ (if isH sc o P a = true then [a] else []) := by
  unfold headsS
  rw [List.range_succ, List.filter_append]
  by_cases e : isH sc o P a = true
  · simp [e]
  · simp [e]
theorem isH_false (h : latF sc o P a = []) : isH sc o P a = false := by unfold isH; simp [h]
theorem isH_true (h : latF sc o P a ≠ []) : isH sc o P a = true := by unfold isH; simp [h]
theorem lps0_step : lps0 sc o P n (a + 1) = lps0 sc o P n a ++ (if isH sc o P a = true then [lp0 sc o P n a] else []) := by
  unfold lps0
  rw [headsS_step, List.map_append]
  by_cases e : isH sc o P a = true
  · simp [e]
  · simp [e]
theorem inF_zero {b : Int} : inF sc o P 0 b = 0 := rfl
theorem inF_step {b : Int} : inF sc o P (a + 1) b = inF sc o P a b + (if isH sc o P a = true ∧ lpB sc o (latF sc o P a) a b = true then 1 else 0) := by
  unfold inF
  rw [headsS_step, List.filter_append, List.length_append]
  by_cases e : isH sc o P a = true
  · by_cases e2 : lpB sc o (latF sc o P a) a b = true
    · simp [e, e2]
    · simp [e, e2]
  · simp [e]
theorem headsS_len : (headsS sc o P a).length ≤ a := by
  unfold headsS
  exact Nat.le_trans (List.length_filter_le ..) (by simp)
theorem inF_le {b : Int} : inF sc o P a b ≤ a := by
  unfold inF
  exact Nat.le_trans (List.length_filter_le ..) headsS_len
theorem lps0_len : (lps0 sc o P n a).length ≤ a := by unfold lps0; rw [List.length_map]; exact headsS_len
theorem loopsS_len : (loopsS sc o P n).length ≤ n := by unfold loopsS; rw [List.length_map]; exact headsS_len
theorem headsS_mem {k : Nat} : k ∈ headsS sc o P a ↔ (k < a ∧ latF sc o P k ≠ []) := by
  unfold headsS isH
  rw [List.mem_filter, List.mem_range, decide_eq_true_iff]
/-- the row of counts while the loop of header a is gone through: blocks below i are counted -/
noncomputable def inL (sc : Int → List Int) (o : List Int) (P : List (List Int)) (n a i : Nat) : List Int := (List.range n).map fun (b : Nat) => (((inF sc o P a (b : Int) + (if b < i ∧ lpB sc o (latF sc o P a) a (b : Int) = true then 1 else 0)) : Nat) : Int)
theorem inL_len : (inL sc o P n a i).length = n := by simp [inL]
theorem inL_at {b : Nat} (hb : b < n) : (inL sc o P n a i)[b]? = some (((inF sc o P a b + (if b < i ∧ lpB sc o (latF sc o P a) a b = true then 1 else 0)) : Nat) : Int) := by simp [inL, hb]
theorem inL_ext {l : List Int} (hl : l.length = n) (h : ∀ b, b < n → l[b]? = (inL sc o P n a i)[b]?) : l = inL sc o P n a i := by
  refine List.ext_getElem? fun k => ?_
  by_cases hk : k < n
  · exact h k hk
  · rw [List.getElem?_eq_none (by omega), List.getElem?_eq_none (by rw [inL_len]; omega)]
theorem inL_start : inL sc o P n 0 0 = List.replicate n 0 := (inL_ext (by simp) fun b hb => by
  rw [inL_at hb, List.getElem?_replicate, if_pos hb, inF_zero]
  simp).symm
theorem inL_skip (h : lpB sc o (latF sc o P a) a i = false) : inL sc o P n a i = inL sc o P n a (i + 1) := inL_ext inL_len fun b hb => by
  rw [inL_at hb, inL_at hb]
  by_cases e : b = i
  · subst e; simp [h]
  · have : (b < i) ↔ (b < i + 1) := by omega
    simp only [this]
theorem inL_take (hi : i < n) (h : lpB sc o (latF sc o P a) a i = true) : (inL sc o P n a i).set i (((inF sc o P a i + 1 : Nat)) : Int) = inL sc o P n a (i + 1) := inL_ext (by rw [List.length_set, inL_len]) fun b hb => by
  by_cases e : i = b
  · subst e
    rw [List.getElem?_set_self (by rw [inL_len]; exact hb), inL_at hb]
    simp [h]
  · rw [List.getElem?_set_ne e, inL_at hb, inL_at hb]
    have : (b < i) ↔ (b < i + 1) := by omega
    simp only [this]
theorem inL_here (hi : i < n) : (inL sc o P n a i)[i]? = some (((inF sc o P a i) : Nat) : Int) := by
  rw [inL_at hi]
  simp
theorem inL_end (h : isH sc o P a = true) : inL sc o P n a n = inL sc o P n (a + 1) 0 := inL_ext inL_len fun b hb => by
  rw [inL_at hb, inL_at hb, inF_step]
  simp [h, hb]
theorem inL_none (h : isH sc o P a = false) : inL sc o P n a 0 = inL sc o P n (a + 1) 0 := inL_ext inL_len fun b hb => by
  rw [inL_at hb, inL_at hb, inF_step]
  simp [h]
/-- the exits met so far: the successors, outside the loop, of the blocks bs and the first of those of one more -/
structure ExK (sc : Int → List Int) (lp bs rest E : List Int) : Prop where
  nodup : E.Nodup
  iff : ∀ t, t ∈ E ↔ (t ∉ lp ∧ ((∃ b, b ∈ bs ∧ t ∈ sc b) ∨ t ∈ rest))
theorem ExK.start {lp : List Int} : ExK sc lp [] [] [] := ⟨List.nodup_nil, fun t => by simp⟩
theorem ExK.put {bs l E : List Int} {i : Nat} {t : Int} (H : ExK sc lp bs (l.take i) E) (ht : l[i]? = some t) (hp : t ∉ lp) : ExK sc lp bs (l.take (i + 1)) (if t ∈ E then E else E ++ [t]) := by
  have hm : ∀ x : Int, x ∈ (if t ∈ E then E else E ++ [t]) ↔ (x ∈ E ∨ x = t) := fun x => by
    by_cases e : t ∈ E
    · rw [if_pos e]; exact ⟨.inl, fun h => h.elim id fun h => h ▸ e⟩
    · rw [if_neg e]; simp
  refine ⟨?_, fun x => ?_⟩
  · by_cases e : t ∈ E
    · rw [if_pos e]; exact H.nodup
    · rw [if_neg e, List.nodup_append]
      exact ⟨H.nodup, by simp, fun a ha b hb => by rw [List.mem_singleton.1 hb]; exact fun h => e (h ▸ ha)⟩
  · rw [hm x, H.iff x, List.take_add_one, ht]
    simp only [Option.toList_some, List.mem_append, List.mem_singleton]
    constructor
    · rintro (⟨h1, h2⟩ | rfl)
      · exact ⟨h1, h2.imp id .inl⟩
      · exact ⟨hp, .inr (.inr rfl)⟩
    · rintro ⟨h1, h2 | h2 | h2⟩
      · exact .inl ⟨h1, .inl h2⟩
      · exact .inl ⟨h1, .inr h2⟩
      · exact .inr h2
theorem ExK.pass {bs l E : List Int} {i : Nat} {t : Int} (H : ExK sc lp bs (l.take i) E) (ht : l[i]? = some t) (hp : t ∈ lp) : ExK sc lp bs (l.take (i + 1)) E := ⟨H.nodup, fun x => by
  rw [H.iff x, List.take_add_one, ht]
  simp only [Option.toList_some, List.mem_append, List.mem_singleton]
  constructor
  · rintro ⟨h1, h2⟩
    exact ⟨h1, h2.imp id .inl⟩
  · rintro ⟨h1, h2 | h2 | h2⟩
    · exact ⟨h1, .inl h2⟩
    · exact ⟨h1, .inr h2⟩
    · exact absurd hp (h2 ▸ h1)⟩
theorem ExK.next {bs E : List Int} {b : Int} (H : ExK sc lp bs ((sc b).take (sc b).length) E) : ExK sc lp (bs ++ [b]) [] E := ⟨H.nodup, fun x => by
  rw [H.iff x, List.take_length]
  constructor
  · rintro ⟨h1, h2⟩
    refine ⟨h1, .inl ?_⟩
    rcases h2 with ⟨c, h3, h4⟩ | h2
    · exact ⟨c, by simp [h3], h4⟩
    · exact ⟨b, by simp, h2⟩
  · rintro ⟨h1, ⟨c, h3, h4⟩ | h2⟩
    · rcases List.mem_append.1 h3 with h3 | h3
      · exact ⟨h1, .inl ⟨c, h3, h4⟩⟩
      · rw [List.mem_singleton] at h3
        exact ⟨h1, .inr (h3 ▸ h4)⟩
    · cases h2⟩
theorem ExK.same {bs E : List Int} {b : Int} (H : ExK sc lp bs [] E) : ExK sc lp bs ((sc b).take 0) E := by rw [List.take_zero]; exact H
theorem ExK.done {E : List Int} (hs : ∀ b, SuccOk n (sc b)) (H : ExK sc lp lp [] E) {t : Int} : t ∈ E ↔ t ∈ exL sc lp n := by
  rw [H.iff t, exL_mem]
  constructor
  · rintro ⟨h1, ⟨b, h2, h3⟩ | h2⟩
    · have := (hs b).bound t h3
      exact ⟨this.1, this.2, h1, b, h2, h3⟩
    · cases h2
  · rintro ⟨-, -, h1, b, h2, h3⟩
    exact ⟨h1, .inl ⟨b, h2, h3⟩⟩
theorem ExK.bound {bs rest E : List Int} (hs : ∀ b, SuccOk n (sc b)) (hr : ∀ t, t ∈ rest → 0 ≤ t ∧ t < n) (H : ExK sc lp bs rest E) : E.length ≤ n := range_len n E H.nodup fun t ht => by
  rcases ((H.iff t).1 ht).2 with ⟨b, -, h3⟩ | h3
  · exact (hs b).bound t h3
  · exact hr t h3
end
end Go.Proofs.Yteeclobpajalmaa

namespace Go.Proofs.Yteeclobpajalmaa
open Go.RowKit
set_option linter.unusedSimpArgs false
set_option linter.unusedVariables false

structure LpV where
  b : Value
  l : Value
  e : Value
def LpV.has (x : LpV) (g : Nat) : Prop := x.b.ownBlock = some g ∨ x.l.ownBlock = some g ∨ x.e.ownBlock = some g
/-- its three rows lie in three blocks -/
def LpV.Sep (x : LpV) : Prop := ∀ g, (x.b.ownBlock = some g → x.l.ownBlock ≠ some g ∧ x.e.ownBlock ≠ some g) ∧ (x.l.ownBlock = some g → x.e.ownBlock ≠ some g)
def lpC (x : Lp) (v : LpV) : List Value := [.int .i64 x.head, v.b, v.l, v.e, .int .i64 (x.depth : Int)]
theorem flatten_put {n : Nat} : ∀ {ess : List (List Value)} {i j : Nat} {es : List Value} {u : Value}, (∀ es, es ∈ ess → es.length = n) → ess[i]? = some es → j < n → ess.flatten.set (i * n + j) u = (ess.set i (es.set j u)).flatten
  | [], i, j, es, u, _, h, _ => by simp at h
  | e :: r, 0, j, es, u, hl, h, hj => by
    injection h with h
    subst h
    have he := hl e (List.mem_cons_self ..)
    rw [List.flatten_cons, Nat.zero_mul, Nat.zero_add, List.set_append_left _ _ (by omega)]
    rfl
  | e :: r, i + 1, j, es, u, hl, h, hj => by
    have he := hl e (List.mem_cons_self ..)
    have ih := flatten_put (n := n) (i := i) (j := j) (u := u) (fun es hes => hl es (List.mem_cons_of_mem _ hes)) (by simpa using h) hj
    rw [List.flatten_cons, List.set_append_right _ _ (by rw [he, Nat.add_mul]; omega), he, show (i + 1) * n + j - n = i * n + j by rw [Nat.add_mul]; omega, ih]
    rfl
section
variable {w w' : World} {B B' : Nat} {v : Value} {ls : List Lp} {es : List LpV}
theorem lpC_all {ls : List Lp} {es : List LpV} : ∀ c, c ∈ List.zipWith lpC ls es → c.length = 5 := fun c hc => by
  obtain ⟨k, hk⟩ := List.mem_iff_getElem?.1 hc
  rw [List.getElem?_zipWith] at hk
  cases h1 : ls[k]? <;> cases h2 : es[k]? <;> rw [h1, h2] at hk <;> simp at hk
  subst hk
  rfl
theorem lpC_at {i : Nat} {x : Lp} {e : LpV} (hx : ls[i]? = some x) (he : es[i]? = some e) : (List.zipWith lpC ls es)[i]? = some (lpC x e) := by rw [List.getElem?_zipWith, hx, he]
end
end Go.Proofs.Yteeclobpajalmaa
