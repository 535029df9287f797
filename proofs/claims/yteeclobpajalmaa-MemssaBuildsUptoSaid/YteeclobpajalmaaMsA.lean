/- memssa, the plain side: which blocks have a phi (the work list, the document's rounds). No condition. -/
import Derived.Test.YteeclobpajalmaaFrC
namespace Go.Proofs.Yteeclobpajalmaa
set_option linter.unusedVariables false
set_option linter.unusedSimpArgs false

def chgB (op : Int) : Bool := op == 28 || op == 30
def chgL (x : List Ins) : Bool := x.any fun i => chgB i.op
/-- where the search for phis starts -/
def startB (bs : List (List Ins)) (o : List Int) (b : Nat) : Bool := decide ((b : Int) ∈ o) && (b == 0 || chgL (bs.getD b []))
inductive PhiIn (S : Nat → Bool) (q : Nat → Nat → Bool) : Nat → Prop
  | base {b t : Nat} : S b = true → q b t = true → PhiIn S q t
  | step {b t : Nat} : PhiIn S q b → q b t = true → PhiIn S q t
open Classical in
noncomputable def phiB (S : Nat → Bool) (q : Nat → Nat → Bool) (t : Nat) : Bool := decide (PhiIn S q t)
theorem phiB_iff {S : Nat → Bool} {q : Nat → Nat → Bool} {t : Nat} : phiB S q t = true ↔ PhiIn S q t := by unfold phiB; exact @decide_eq_true_iff _ (Classical.propDecidable _)
theorem phiB_no {S : Nat → Bool} {q : Nat → Nat → Bool} {t : Nat} (h : ¬ PhiIn S q t) : phiB S q t = false := by rw [← Bool.not_eq_true, phiB_iff]; exact h

structure PwI (S : Nat → Bool) (q : Nat → Nat → Bool) (n : Nat) (has : List Bool) (work : List Int) : Prop where
  len : has.length = n
  sound : ∀ t : Nat, has[t]? = some true → PhiIn S q t
  inn : ∀ x, x ∈ work → ∃ b : Nat, x = b ∧ b < n ∧ (S b = true ∨ has[b]? = some true)
  closed : ∀ b : Nat, b < n → (S b = true ∨ has[b]? = some true) → (b : Int) ∈ work ∨ ∀ t : Nat, t < n → q b t = true → has[t]? = some true
  room : has.count false + work.length ≤ 2 * n + 1
structure PwR (S : Nat → Bool) (q : Nat → Nat → Bool) (n : Nat) (m0 : Nat) (has : List Bool) (work : List Int) (b i : Nat) : Prop where
  len : has.length = n
  sound : ∀ t : Nat, has[t]? = some true → PhiIn S q t
  inn : ∀ x, x ∈ work → ∃ b : Nat, x = b ∧ b < n ∧ (S b = true ∨ has[b]? = some true)
  lt : b < n
  cur : S b = true ∨ has[b]? = some true
  closed : ∀ c : Nat, c < n → (S c = true ∨ has[c]? = some true) → (c : Int) ∈ work ∨ (∀ t : Nat, t < n → q c t = true → has[t]? = some true) ∨ c = b
  done : ∀ t : Nat, (t : Int) ∈ (qAt q b n).take i → has[t]? = some true
  room : has.count false + work.length + 1 = m0
section
variable {S : Nat → Bool} {q : Nat → Nat → Bool} {n b i t m0 : Nat} {has : List Bool} {work : List Int}
theorem pw_pop {b' : Int} (h : PwI S q n has (work ++ [b'])) : ∃ b : Nat, b' = b ∧ PwR S q n (has.count false + (work.length + 1)) has work b 0 := by
  obtain ⟨b, rfl, hb, hs⟩ := h.inn b' (by simp)
  refine ⟨b, rfl, h.len, h.sound, fun x hx => h.inn x (by simp [hx]), hb, hs, fun c hc hcs => ?_, fun t ht => ?_, by omega⟩
  · rcases h.closed c hc hcs with h1 | h1
    · rcases List.mem_append.1 h1 with h1 | h1
      · exact .inl h1
      · have := List.mem_singleton.1 h1
        exact .inr (.inr (by omega))
    · exact .inr (.inl h1)
  · rw [List.take_zero] at ht
    cases ht
theorem pw_known (h : PwR S q n m0 has work b i) (ht : (qAt q b n)[i]? = some (t : Int)) (hk : has[t]? = some true) : PwR S q n m0 has work b (i + 1) :=
  ⟨h.len, h.sound, h.inn, h.lt, h.cur, h.closed, fun t' ht' => by
    rw [take_snoc ht] at ht'
    rcases List.mem_append.1 ht' with h1 | h1
    · exact h.done t' h1
    · have := List.mem_singleton.1 h1
      have e : t' = t := by omega
      rw [e]; exact hk, h.room⟩
theorem set_true {l : List Bool} {k t : Nat} (h : l[k]? = some true) (ht : t < l.length) : (l.set t true)[k]? = some true := by
  by_cases e : t = k
  · subst e; exact List.getElem?_set_self ht
  · rw [List.getElem?_set_ne e]; exact h
theorem set_true_or {l : List Bool} {k t : Nat} (h : (l.set t true)[k]? = some true) : l[k]? = some true ∨ k = t := by
  by_cases e : t = k
  · exact .inr e.symm
  · rw [List.getElem?_set_ne e] at h; exact .inl h
theorem pw_mark (h : PwR S q n m0 has work b i) (ht : (qAt q b n)[i]? = some (t : Int)) (hk : has[t]? = some false) : PwR S q n m0 (has.set t true) (work ++ [(t : Int)]) b (i + 1) := by
  have htl : t < has.length := (List.getElem?_eq_some_iff.1 hk).1
  have hmem := List.mem_of_getElem? ht
  obtain ⟨k, hk1, hk2, hk3⟩ := qAt_mem.1 hmem
  have ek : k = t := by omega
  subst ek
  have hphi : PhiIn S q k := by
    rcases h.cur with h1 | h1
    · exact .base h1 hk3
    · exact .step (h.sound b h1) hk3
  refine ⟨by rw [List.length_set]; exact h.len, fun t ht => ?_, fun x hx => ?_, h.lt, h.cur.imp id (fun h1 => set_true h1 htl), fun c hc hcs => ?_, fun t' ht' => ?_, ?_⟩
  · rcases set_true_or ht with h1 | h1
    · exact h.sound t h1
    · rw [h1]; exact hphi
  · rcases List.mem_append.1 hx with h1 | h1
    · obtain ⟨c, e, h2, h3⟩ := h.inn x h1
      exact ⟨c, e, h2, h3.imp id fun h4 => set_true h4 htl⟩
    · exact ⟨k, List.mem_singleton.1 h1, hk2, .inr (List.getElem?_set_self htl)⟩
  · have hc' : c = k ∨ (S c = true ∨ has[c]? = some true) := by
      rcases hcs with h1 | h1
      · exact .inr (.inl h1)
      · rcases set_true_or h1 with h2 | h2
        · exact .inr (.inr h2)
        · exact .inl h2
    rcases hc' with h1 | h1
    · exact .inl (by rw [h1]; simp)
    · rcases h.closed c hc h1 with h2 | h2 | h2
      · exact .inl (by simp [h2])
      · exact .inr (.inl fun t ht hq => set_true (h2 t ht hq) htl)
      · exact .inr (.inr h2)
  · rw [take_snoc ht] at ht'
    rcases List.mem_append.1 ht' with h1 | h1
    · exact set_true (h.done t' h1) htl
    · have := List.mem_singleton.1 h1
      have e : t' = k := by omega
      rw [e]; exact List.getElem?_set_self htl
  · have h1 := count_set hk
    have h2 := h.room
    rw [List.length_append, List.length_singleton]
    omega
theorem pw_end (h : PwR S q n m0 has work b (qAt q b n).length) (hm : m0 ≤ 2 * n + 1) : PwI S q n has work ∧ has.count false + work.length < m0 := by
  refine ⟨⟨h.len, h.sound, h.inn, fun c hc hcs => ?_, by have := h.room; omega⟩, by have := h.room; omega⟩
  rcases h.closed c hc hcs with h1 | h1 | h1
  · exact .inl h1
  · exact .inr h1
  · refine .inr fun t ht hq => h.done t ?_
    rw [List.take_length, h1] at *
    exact qAt_mem.2 ⟨t, rfl, ht, hq⟩
theorem pw_done (h : PwI S q n has []) (hS : ∀ b, S b = true → b < n) (hq : ∀ b t, q b t = true → t < n) (k : Nat) (hk : k < n) : has[k]? = some (phiB S q k) := by
  have key : ∀ t, PhiIn S q t → t < n ∧ has[t]? = some true := fun t ht => by
    induction ht with
    | base h1 h2 =>
      rename_i b t
      refine ⟨hq _ _ h2, ?_⟩
      rcases h.closed b (hS b h1) (.inl h1) with h3 | h3
      · cases h3
      · exact h3 t (hq _ _ h2) h2
    | step h1 h2 ih =>
      rename_i b t
      refine ⟨hq _ _ h2, ?_⟩
      rcases h.closed b ih.1 (.inr ih.2) with h3 | h3
      · cases h3
      · exact h3 t (hq _ _ h2) h2
  have hl : k < has.length := by rw [h.len]; exact hk
  by_cases hp : PhiIn S q k
  · rw [phiB_iff.2 hp]; exact (key k hp).2
  · rw [phiB_no hp]
    rw [List.getElem?_eq_getElem hl]
    cases hb : has[k] with
    | false => rfl
    | true => exact absurd (h.sound k (by rw [List.getElem?_eq_getElem hl, hb])) hp
/-- the work list at its start: block 0, and the reachable blocks below b that change memory -/
def pwL (p : Nat → Bool) (b : Nat) : List Int := 0 :: ((List.range b).filter p).map Int.ofNat
theorem pwL_step {p : Nat → Bool} : pwL p (b + 1) = pwL p b ++ (if p b = true then [(b : Int)] else []) := by
  unfold pwL
  rw [List.range_succ, List.filter_append, List.map_append]
  by_cases h : p b = true
  · simp [h]
  · simp [h]
theorem pwL_len {p : Nat → Bool} : (pwL p b).length ≤ b + 1 := by
  unfold pwL
  have := List.length_filter_le p (List.range b)
  simp at this ⊢
  omega
theorem pw_start {p : Nat → Bool} (hn : 0 < n) (h0 : S 0 = true) (hp : ∀ b, 0 < b → p b = S b) (hp0 : p 0 = true → S 0 = true) : PwI S q n (List.replicate n false) (pwL p n) := by
  have hno : ∀ t : Nat, (List.replicate n false)[t]? ≠ some true := fun t h => by
    rw [List.getElem?_replicate] at h
    split at h
    · cases h
    · cases h
  refine ⟨by simp, fun t h => absurd h (hno t), fun x hx => ?_, fun b hb hs => ?_, ?_⟩
  · unfold pwL at hx
    rcases List.mem_cons.1 hx with h1 | h1
    · exact ⟨0, h1, hn, .inl h0⟩
    · obtain ⟨b, h2, h3⟩ := List.mem_map.1 h1
      rw [List.mem_filter, List.mem_range] at h2
      refine ⟨b, h3.symm, h2.1, .inl ?_⟩
      rcases Nat.eq_zero_or_pos b with e | e
      · rw [e]; exact h0
      · rw [← hp b e]; exact h2.2
  · rcases hs with h1 | h1
    · refine .inl ?_
      unfold pwL
      rcases Nat.eq_zero_or_pos b with e | e
      · rw [e]; simp
      · refine List.mem_cons_of_mem _ (List.mem_map.2 ⟨b, List.mem_filter.2 ⟨List.mem_range.2 hb, ?_⟩, rfl⟩)
        rw [hp b e]; exact h1
    · exact absurd h1 (hno b)
  · have := pwL_len (p := p) (b := n)
    rw [List.count_replicate]
    simp
    omega
end

/-- the document's rounds: the rows that lie behind the front end F and the list l itself -/
structure RpI (S : Nat → Bool) (q : Nat → Nat → Bool) (n : Nat) (F l : List Int) (i : Nat) : Prop where
  nodup : l.Nodup
  sound : ∀ x, x ∈ l → ∃ t : Nat, x = t ∧ t < n ∧ PhiIn S q t
  closed : ∀ (j b : Nat), j < i → (F ++ l)[j]? = some (b : Int) → ∀ t : Nat, t < n → q b t = true → (t : Int) ∈ l
structure RpR (S : Nat → Bool) (q : Nat → Nat → Bool) (n : Nat) (F l0 l : List Int) (i b k : Nat) (more : Bool) : Prop where
  inv : RpI S q n F l i
  cur : (F ++ l)[i]? = some (b : Int)
  src : S b = true ∨ PhiIn S q b
  done : ∀ t : Nat, (t : Int) ∈ (qAt q b n).take k → (t : Int) ∈ l
  len : l0.length ≤ l.length
  gain : more = true → l0.length < l.length
  same : more = false → l = l0
section
variable {S : Nat → Bool} {q : Nat → Nat → Bool} {n b i k t : Nat} {F l0 l : List Int} {more : Bool}
theorem rp_len (h : RpI S q n F l i) : l.length ≤ n := range_len n l h.nodup fun x hx => by
  obtain ⟨t, rfl, h1, -⟩ := h.sound x hx
  omega
theorem rp_start : RpI S q n F [] 0 := ⟨List.nodup_nil, (fun x hx => by cases hx), fun j b hj => by omega⟩
theorem rp_again (h : RpI S q n F l i) : RpI S q n F l 0 := ⟨h.nodup, h.sound, fun j b hj => by omega⟩
theorem rp_src (hF : ∀ x, x ∈ F → ∃ b : Nat, x = b ∧ b < n ∧ S b = true) (h : RpI S q n F l i) {x : Int} (hx : (F ++ l)[i]? = some x) : ∃ b : Nat, x = b ∧ b < n ∧ (S b = true ∨ PhiIn S q b) := by
  rcases List.mem_append.1 (List.mem_of_getElem? hx) with h1 | h1
  · obtain ⟨b, h2, h3, h4⟩ := hF x h1
    exact ⟨b, h2, h3, .inl h4⟩
  · obtain ⟨b, h2, h3, h4⟩ := h.sound x h1
    exact ⟨b, h2, h3, .inr h4⟩
theorem rp_known (h : RpR S q n F l0 l i b k more) (ht : (qAt q b n)[k]? = some (t : Int)) (hk : (t : Int) ∈ l) : RpR S q n F l0 l i b (k + 1) more :=
  ⟨h.inv, h.cur, h.src, fun t' ht' => by
    rw [take_snoc ht] at ht'
    rcases List.mem_append.1 ht' with h1 | h1
    · exact h.done t' h1
    · rw [List.mem_singleton.1 h1]; exact hk, h.len, h.gain, h.same⟩
theorem rp_mark (h : RpR S q n F l0 l i b k more) (ht : (qAt q b n)[k]? = some (t : Int)) (hk : (t : Int) ∉ l) : RpR S q n F l0 (l ++ [(t : Int)]) i b (k + 1) true := by
  obtain ⟨t', e, ht1, ht2⟩ := qAt_mem.1 (List.mem_of_getElem? ht)
  have e2 : t' = t := by omega
  subst e2
  have hphi : PhiIn S q t' := by
    rcases h.src with h1 | h1
    · exact .base h1 ht2
    · exact .step h1 ht2
  have hi := (List.getElem?_eq_some_iff.1 h.cur).1
  refine ⟨⟨?_, fun x hx => ?_, fun j c hj hc t ht hq => ?_⟩, ?_, h.src, fun u hu => ?_, ?_, fun _ => ?_, fun h => by cases h⟩
  · rw [List.nodup_append]
    exact ⟨h.inv.nodup, by simp, fun a ha c hc e => hk (by rw [List.mem_singleton.1 hc] at e; rw [← e]; exact ha)⟩
  · rcases List.mem_append.1 hx with h1 | h1
    · exact h.inv.sound x h1
    · exact ⟨t', List.mem_singleton.1 h1, ht1, hphi⟩
  · rw [← List.append_assoc, List.getElem?_append_left (by omega)] at hc
    exact List.mem_append_left _ (h.inv.closed j c hj hc t ht hq)
  · rw [← List.append_assoc, List.getElem?_append_left hi]
    exact h.cur
  · rw [take_snoc ht] at hu
    rcases List.mem_append.1 hu with h1 | h1
    · exact List.mem_append_left _ (h.done u h1)
    · exact List.mem_append_right _ h1
  · rw [List.length_append]; have := h.len; omega
  · rw [List.length_append]; have := h.len; simp; omega
theorem rp_next (h : RpR S q n F l0 l i b (qAt q b n).length more) : RpI S q n F l (i + 1) :=
  ⟨h.inv.nodup, h.inv.sound, fun j c hj hc t ht hq => by
    by_cases e : j = i
    · subst e
      rw [h.cur] at hc
      have e2 : c = b := by have := Option.some.inj hc; omega
      subst e2
      refine h.done t ?_
      rw [List.take_length]
      exact qAt_mem.2 ⟨t, rfl, ht, hq⟩
    · exact h.inv.closed j c (by omega) hc t ht hq⟩
theorem rp_done (h : RpI S q n F l (F.length + l.length)) (hF : ∀ b : Nat, S b = true → (b : Int) ∈ F) (hq : ∀ b t, q b t = true → t < n) (t : Nat) : (t : Int) ∈ l ↔ PhiIn S q t := by
  constructor
  · intro ht
    obtain ⟨t', e, -, h1⟩ := h.sound _ ht
    have e2 : t' = t := by omega
    rw [← e2]; exact h1
  · intro ht
    have key : ∀ b : Nat, (b : Int) ∈ F ++ l → ∀ t : Nat, q b t = true → (t : Int) ∈ l := fun b hb t hq' => by
      obtain ⟨j, hj⟩ := List.mem_iff_getElem?.1 hb
      have hjl := (List.getElem?_eq_some_iff.1 hj).1
      rw [List.length_append] at hjl
      exact h.closed j b hjl hj t (hq _ _ hq') hq'
    induction ht with
    | base h1 h2 => exact key _ (List.mem_append_left _ (hF _ h1)) _ h2
    | step h1 h2 ih => exact key _ (List.mem_append_right _ ih) _ h2
end
end Go.Proofs.Yteeclobpajalmaa
