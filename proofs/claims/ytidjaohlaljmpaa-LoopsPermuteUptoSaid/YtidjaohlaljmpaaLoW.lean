/- Loops under a renumbering of the blocks: the plain side. No condition. -/
import Derived.Test.YtidjaohlaljmpaaLoU
import Derived.Test.YtidjaohlaljmpaaDoJ
namespace Go.Proofs.Ytidjaohlaljmpaa
set_option linter.unusedVariables false
set_option linter.unusedSimpArgs false

theorem sub_len : ∀ {l l' : List Int}, l.Nodup → (∀ x, x ∈ l → x ∈ l') → l.length ≤ l'.length
  | [], _, _, _ => Nat.zero_le _
  | x :: l, l', hn, h => by
    rw [List.nodup_cons] at hn
    have hx := h x (by simp)
    have := sub_len (l := l) (l' := l'.erase x) hn.2 fun y hy => by
      refine (List.mem_erase_of_ne ?_).2 (h y (by simp [hy]))
      rintro rfl
      exact hn.1 hy
    rw [List.length_erase_of_mem hx] at this
    have hp := List.length_pos_of_mem hx
    rw [List.length_cons]
    omega
section
variable {A B : Int}
theorem nodup_mv {l : List Int} (h : l.Nodup) : (l.map (mv A B)).Nodup := by
  rw [List.Nodup, List.pairwise_map]
  exact h.imp fun hne e => hne (mv_inj e)
/-- two rows with the same members, but for the renumbering -/
theorem len_mv {l l' : List Int} (h : l.Nodup) (h' : l'.Nodup) (hm : ∀ x, mv A B x ∈ l' ↔ x ∈ l) : l'.length = l.length := by
  have h1 := sub_len (l := l.map (mv A B)) (l' := l') (nodup_mv h) fun x hx => by
    obtain ⟨y, hy, rfl⟩ := List.mem_map.1 hx
    exact (hm y).2 hy
  have h2 := sub_len (l := l'.map (mv A B)) (l' := l) (nodup_mv h') fun x hx => by
    obtain ⟨y, hy, rfl⟩ := List.mem_map.1 hx
    rw [← mv_mv A B y] at hy
    exact (hm _).1 hy
  rw [List.length_map] at h1 h2
  omega
theorem mem_mv {o : List Int} {x : Int} : mv A B x ∈ o.map (mv A B) ↔ x ∈ o := by
  constructor
  · intro h
    obtain ⟨y, hy, he⟩ := List.mem_map.1 h
    rw [← mv_inj he]
    exact hy
  · exact fun h => List.mem_map.2 ⟨x, h, rfl⟩
variable {sc sc' : Int → List Int} {o : List Int} {n : Nat} {a x : Int}
theorem dom_mv (hA : 0 < A) (hB : 0 < B) (h : ∀ x, sc' (mv A B x) = (sc x).map (mv A B)) : domB sc' (o.map (mv A B)) (mv A B a) (mv A B x) = domB sc o a x := by
  rw [Bool.eq_iff_iff, domB_iff, domB_iff]
  unfold Dom
  rw [mem_mv, mem_mv, rchW_mv_iff hA hB h]
/-- a block's latches -/
theorem lat_mem {h : Nat} (hh : h < n) : x ∈ latF sc o (predsL sc n) h ↔ ((0 ≤ x ∧ x < n ∧ (h : Int) ∈ sc x) ∧ domB sc o h x = true) := by
  obtain ⟨p, hp⟩ := get_ex (l := predsL sc n) (k := h) (by rw [predsL_len]; exact hh)
  unfold latF
  rw [List.mem_filter, hp.out]
  show (x ∈ p ∧ _) ↔ _
  rw [predsL_mem hp.out x]
theorem lat_nodup {h : Nat} : (latF sc o (predsL sc n) h).Nodup := by
  by_cases hh : h < n
  · obtain ⟨p, hp⟩ := get_ex (l := predsL sc n) (k := h) (by rw [predsL_len]; exact hh)
    unfold latF
    rw [hp.out]
    exact (((predsL_sorted hp.out).imp fun h => by omega : List.Pairwise (· ≠ ·) p)).filter _
  · unfold latF
    rw [List.getElem?_eq_none (by rw [predsL_len]; omega)]
    exact List.nodup_nil
theorem lat_mv (hA : 0 < A ∧ A < n) (hB : 0 < B ∧ B < n) (h : ∀ x, sc' (mv A B x) = (sc x).map (mv A B)) {k k' : Nat} (hk : k < n) (hk' : k' < n) (hkk : mv A B k = k') : mv A B x ∈ latF sc' (o.map (mv A B)) (predsL sc' n) k' ↔ x ∈ latF sc o (predsL sc n) k := by
  rw [lat_mem hk', lat_mem hk, ← hkk, dom_mv hA.1 hB.1 h, h x, mem_mv]
  have := mv_in (a := A) (b := B) (x := x) (n := n) ⟨by omega, hA.2⟩ ⟨by omega, hB.2⟩
  constructor
  · rintro ⟨⟨h1, h2, h3⟩, h4⟩
    have := this.1 ⟨h1, h2⟩
    exact ⟨⟨this.1, this.2, h3⟩, h4⟩
  · rintro ⟨⟨h1, h2, h3⟩, h4⟩
    have := this.2 ⟨h1, h2⟩
    exact ⟨⟨this.1, this.2, h3⟩, h4⟩
theorem lp_mv1 {lat lat' : List Int} (h : ∀ x, sc' (mv A B x) = (sc x).map (mv A B)) (hl : ∀ x, x ∈ lat → mv A B x ∈ lat') (g : LpIn sc o lat a x) : LpIn sc' (o.map (mv A B)) lat' (mv A B a) (mv A B x) := by
  induction g with
  | head => exact .head
  | latch hx => exact .latch (hl _ hx)
  | back ho hs hne _ ih => exact .back (mem_mv.2 ho) (by rw [h]; exact mem_mv.2 hs) (fun e => hne (mv_inj e)) ih
theorem lp_mv {lat lat' : List Int} (h : ∀ x, sc' (mv A B x) = (sc x).map (mv A B)) (hl : ∀ x, mv A B x ∈ lat' ↔ x ∈ lat) : LpIn sc' (o.map (mv A B)) lat' (mv A B a) (mv A B x) ↔ LpIn sc o lat a x := by
  refine ⟨fun g => ?_, lp_mv1 h fun x hx => (hl x).2 hx⟩
  have hinv : ∀ x, sc (mv A B x) = (sc' x).map (mv A B) := fun x => by
    have := h (mv A B x)
    rw [mv_mv] at this
    rw [this, List.map_map]
    have e : (mv A B) ∘ (mv A B) = id := by funext y; exact mv_mv A B y
    rw [e, List.map_id]
  have g2 := lp_mv1 (lat' := lat) hinv (fun x hx => by
    rw [← mv_mv A B x] at hx
    exact (hl _).1 hx) g
  rw [List.map_map, mv_mv, mv_mv] at g2
  have e : (mv A B) ∘ (mv A B) = id := by funext y; exact mv_mv A B y
  rwa [e, List.map_id] at g2
theorem body_mv (hA : 0 < A ∧ A < n) (hB : 0 < B ∧ B < n) (h : ∀ x, sc' (mv A B x) = (sc x).map (mv A B)) {k k' : Nat} (hk : k < n) (hk' : k' < n) (hkk : mv A B k = k') : mv A B x ∈ bodyS sc' (o.map (mv A B)) (predsL sc' n) n k' ↔ x ∈ bodyS sc o (predsL sc n) n k := by
  unfold bodyS
  rw [lpL_mem, lpL_mem, ← hkk, lp_mv h fun x => lat_mv hA hB h hk hk' hkk]
  have := mv_in (a := A) (b := B) (x := x) (n := n) ⟨by omega, hA.2⟩ ⟨by omega, hB.2⟩
  constructor
  · rintro ⟨h1, h2, h3⟩
    have := this.1 ⟨h1, h2⟩
    exact ⟨this.1, this.2, h3⟩
  · rintro ⟨h1, h2, h3⟩
    have := this.2 ⟨h1, h2⟩
    exact ⟨this.1, this.2, h3⟩
theorem ex_mv (hA : 0 < A ∧ A < n) (hB : 0 < B ∧ B < n) (h : ∀ x, sc' (mv A B x) = (sc x).map (mv A B)) {lp lp' : List Int} (hl : ∀ x, mv A B x ∈ lp' ↔ x ∈ lp) : mv A B x ∈ exL sc' lp' n ↔ x ∈ exL sc lp n := by
  rw [exL_mem, exL_mem, hl]
  have := mv_in (a := A) (b := B) (x := x) (n := n) ⟨by omega, hA.2⟩ ⟨by omega, hB.2⟩
  constructor
  · rintro ⟨h1, h2, h3, b, h4, h5⟩
    have := this.1 ⟨h1, h2⟩
    refine ⟨this.1, this.2, h3, mv A B b, ?_, ?_⟩
    · rw [← mv_mv A B b] at h4
      exact (hl _).1 h4
    · rw [← mv_mv A B b, h] at h5
      exact mem_mv.1 h5
  · rintro ⟨h1, h2, h3, b, h4, h5⟩
    have := this.2 ⟨h1, h2⟩
    exact ⟨this.1, this.2, h3, mv A B b, (hl b).2 h4, by rw [h]; exact mem_mv.2 h5⟩
theorem rising_nodup {l : List Int} (h : l.Pairwise (· < ·)) : l.Nodup := h.imp fun h => by omega
theorem mv_nat {A B k n : Nat} (hA : A < n) (hB : B < n) (hk : k < n) : ∃ k' : Nat, k' < n ∧ mv (A : Int) B k = k' := by
  have := (mv_in (a := (A : Int)) (b := (B : Int)) (x := (k : Int)) (n := n) ⟨by omega, by omega⟩ ⟨by omega, by omega⟩).2 ⟨by omega, by omega⟩
  obtain ⟨k', hk'⟩ := Int.eq_ofNat_of_zero_le this.1
  exact ⟨k', by omega, hk'⟩
end
section
variable {A B n : Nat} {sc sc' : Int → List Int} {o : List Int}
theorem heads_mv (hA : 0 < A ∧ A < n) (hB : 0 < B ∧ B < n) (h : ∀ x, sc' (mv A B x) = (sc x).map (mv A B)) (x : Int) : mv A B x ∈ (headsS sc' (o.map (mv A B)) (predsL sc' n) n).map Int.ofNat ↔ x ∈ (headsS sc o (predsL sc n) n).map Int.ofNat := by
  have hA' : (0 : Int) < A ∧ (A : Int) < n := ⟨by omega, by omega⟩
  have hB' : (0 : Int) < B ∧ (B : Int) < n := ⟨by omega, by omega⟩
  have key : ∀ {k k' : Nat}, k < n → k' < n → mv (A : Int) B k = k' → (latF sc' (o.map (mv A B)) (predsL sc' n) k' ≠ [] ↔ latF sc o (predsL sc n) k ≠ []) := fun {k k'} hk hk' hkk => by
    rw [← List.length_pos_iff, ← List.length_pos_iff, len_mv lat_nodup lat_nodup (fun x => lat_mv hA' hB' h hk hk' hkk)]
  simp only [List.mem_map, headsS_mem]
  constructor
  · rintro ⟨k', ⟨hk', hne⟩, he⟩
    obtain ⟨k, hk, hkk⟩ := mv_nat (A := A) (B := B) hA.2 hB.2 hk'
    have hx : x = k := by rw [← mv_mv (A : Int) B x, ← he]; exact hkk
    refine ⟨k, ⟨hk, ?_⟩, hx.symm⟩
    exact (key hk hk' (by rw [← hkk]; exact mv_mv _ _ _)).1 hne
  · rintro ⟨k, ⟨hk, hne⟩, rfl⟩
    obtain ⟨k', hk', hkk⟩ := mv_nat (A := A) (B := B) hA.2 hB.2 hk
    exact ⟨k', ⟨hk', (key hk hk' hkk).2 hne⟩, hkk.symm⟩
theorem heads_nodup {P : List (List Int)} {q : Nat → Bool} : (((headsS sc o P n).filter q).map Int.ofNat).Nodup := by
  unfold headsS
  rw [List.Nodup, List.pairwise_map]
  exact ((List.nodup_range (n := n)).filter _ |>.filter _).imp fun hne e => hne (Int.ofNat.inj e)
theorem heads_nodup0 {P : List (List Int)} : ((headsS sc o P n).map Int.ofNat).Nodup := by
  unfold headsS
  rw [List.Nodup, List.pairwise_map]
  exact ((List.nodup_range (n := n)).filter _).imp fun hne e => hne (Int.ofNat.inj e)
theorem loops_len_mv (hA : 0 < A ∧ A < n) (hB : 0 < B ∧ B < n) (h : ∀ x, sc' (mv A B x) = (sc x).map (mv A B)) : (loopsS sc' (o.map (mv A B)) (predsL sc' n) n).length = (loopsS sc o (predsL sc n) n).length := by
  have := len_mv (heads_nodup0 (sc := sc) (o := o) (P := predsL sc n) (n := n)) heads_nodup0 (heads_mv hA hB h)
  rw [List.length_map, List.length_map] at this
  unfold loopsS
  rw [List.length_map, List.length_map, this]
/-- y is x, renumbered -/
structure LpMv (A B : Int) (x y : Lp) : Prop where
  depth : y.depth = x.depth
  nb : y.blocks.length = x.blocks.length
  nl : y.latch.length = x.latch.length
  nx : y.exits.length = x.exits.length
  blocks : ∀ c, c ∈ x.blocks → mv A B c ∈ y.blocks
  exits : ∀ c, c ∈ x.exits → mv A B c ∈ y.exits
theorem lp_mv_of (hA : 0 < A ∧ A < n) (hB : 0 < B ∧ B < n) (h : ∀ x, sc' (mv A B x) = (sc x).map (mv A B)) {x y : Lp} (hx : x ∈ loopsS sc o (predsL sc n) n) (hy : y ∈ loopsS sc' (o.map (mv A B)) (predsL sc' n) n) (he : y.head = mv A B x.head) : LpMv A B x y := by
  have hA' : (0 : Int) < A ∧ (A : Int) < n := ⟨by omega, by omega⟩
  have hB' : (0 : Int) < B ∧ (B : Int) < n := ⟨by omega, by omega⟩
  unfold loopsS at hx hy
  obtain ⟨k, hk, rfl⟩ := List.mem_map.1 hx
  obtain ⟨k', hk', rfl⟩ := List.mem_map.1 hy
  have hkn := (headsS_mem.1 hk).1
  have hkn' := (headsS_mem.1 hk').1
  have hkk : mv (A : Int) B k = k' := he.symm
  have hb := fun x => body_mv (x := x) (o := o) hA' hB' h hkn hkn' hkk
  have hex := fun x => ex_mv (x := x) hA' hB' h hb
  refine ⟨?_, len_mv (rising_nodup lpL_sorted) (rising_nodup lpL_sorted) hb, len_mv lat_nodup lat_nodup (fun x => lat_mv hA' hB' h hkn hkn' hkk), len_mv (rising_nodup exL_sorted) (rising_nodup exL_sorted) hex, fun c hc => (hb c).2 hc, fun c hc => (hex c).2 hc⟩
  show inF sc' (o.map (mv A B)) (predsL sc' n) n (k' : Int) = inF sc o (predsL sc n) n (k : Int)
  unfold inF
  have := len_mv (A := (A : Int)) (B := (B : Int)) (heads_nodup (sc := sc) (o := o) (P := predsL sc n) (n := n) (q := fun j => lpB sc o (latF sc o (predsL sc n) j) j k)) (heads_nodup (sc := sc') (o := o.map (mv A B)) (P := predsL sc' n) (n := n) (q := fun j => lpB sc' (o.map (mv A B)) (latF sc' (o.map (mv A B)) (predsL sc' n) j) j k')) (fun x => ?_)
  · rw [List.length_map, List.length_map] at this
    exact this
  have hh := heads_mv (o := o) hA hB h x
  simp only [List.mem_map, List.mem_filter, lpB_iff] at hh ⊢
  constructor
  · rintro ⟨j', ⟨h1, h2⟩, h3⟩
    obtain ⟨j, hj, hjx⟩ := hh.1 ⟨j', h1, h3⟩
    refine ⟨j, ⟨hj, ?_⟩, hjx⟩
    have hjj : mv (A : Int) B j = j' := by rw [show ((j : Nat) : Int) = x from hjx]; exact h3.symm
    rw [← hkk, ← hjj] at h2
    exact (lp_mv h fun x => lat_mv hA' hB' h (headsS_mem.1 hj).1 (headsS_mem.1 h1).1 hjj).1 h2
  · rintro ⟨j, ⟨h1, h2⟩, h3⟩
    obtain ⟨j', hj', hjx⟩ := hh.2 ⟨j, h1, h3⟩
    refine ⟨j', ⟨hj', ?_⟩, hjx⟩
    have hjj : mv (A : Int) B j = j' := by rw [show ((j : Nat) : Int) = x from h3]; exact hjx.symm
    rw [← hkk, ← hjj]
    exact (lp_mv h fun x => lat_mv hA' hB' h (headsS_mem.1 h1).1 (headsS_mem.1 hj').1 hjj).2 h2
theorem lp_mv_ex (hA : 0 < A ∧ A < n) (hB : 0 < B ∧ B < n) (h : ∀ x, sc' (mv A B x) = (sc x).map (mv A B)) {x : Lp} (hx : x ∈ loopsS sc o (predsL sc n) n) : ∃ y, y ∈ loopsS sc' (o.map (mv A B)) (predsL sc' n) n ∧ y.head = mv A B x.head := by
  unfold loopsS at hx
  obtain ⟨k, hk, rfl⟩ := List.mem_map.1 hx
  obtain ⟨k', hk', he⟩ := List.mem_map.1 ((heads_mv (o := o) hA hB h k).2 (List.mem_map.2 ⟨k, hk, rfl⟩))
  unfold loopsS
  exact ⟨_, List.mem_map.2 ⟨k', hk', rfl⟩, he⟩
end
end Go.Proofs.Ytidjaohlaljmpaa
