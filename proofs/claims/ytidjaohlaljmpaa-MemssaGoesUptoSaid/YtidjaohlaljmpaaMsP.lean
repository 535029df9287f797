/- memssa, the plain side of the laws: without a phi the same access stands at the end of all predecessors. No condition. -/
import Derived.Test.YtidjaohlaljmpaaMsL
namespace Go.Proofs.Ytidjaohlaljmpaa
set_option linter.unusedSimpArgs false
set_option linter.unusedVariables false

section
variable {bs : List (List Ins)} {sc : Int → List Int} {o l : List Int} {n : Nat}
/-- the blocks with a phi, by successors and order -/
noncomputable def phH (bs : List (List Ins)) (sc : Int → List Int) (o : List Int) : Nat → Bool := phiB (startB bs o) (frB sc o)
theorem phH_base {b t : Nat} (h1 : startB bs o b = true) (h2 : FrS sc o b t) : phH bs sc o t = true := phiB_iff.2 (.base h1 (frB_iff.2 h2))
theorem phH_step {b t : Nat} (h1 : phH bs sc o b = true) (h2 : FrS sc o b t) : phH bs sc o t = true := phiB_iff.2 (.step (phiB_iff.1 h1) (frB_iff.2 h2))
theorem chg_of_code {b : Nat} {x : List Ins} {j : Nat} : ∀ i, (⟨1, b, j, [], []⟩ : Ac) ∈ codeA b x i → chgL x = true
  | 0, h => by cases h
  | i + 1, h => by
    rcases List.mem_append.1 h with h1 | h1
    · exact chg_of_code i h1
    · cases hx : x[i]? with
      | none => rw [hx] at h1; cases h1
      | some s =>
        rw [hx] at h1
        change (⟨1, b, j, [], []⟩ : Ac) ∈ accI b i s at h1
        unfold accI at h1
        split at h1
        · rename_i hc
          exact chgL_yes hx hc
        · split at h1
          · have := List.mem_singleton.1 h1
            cases this
          · cases h1
/-- an access that may stand somewhere: its block begins the search, or has a phi -/
theorem last_src {H : Nat → Bool} {b i : Nat} (h : LastC (laidA bs H o n) b i) : H b = true ∨ startB bs o b = true := by
  obtain ⟨h0, a, h1, h2, h3⟩ := h
  obtain ⟨c, h4, h5, -⟩ := laidA_mem n h1 h0
  obtain ⟨h6, h7⟩ := blkA_mem h5
  rcases h7 with ⟨h7, rfl⟩ | ⟨j, k, -, hk, rfl⟩
  · have e : c = b := by have : (c : Int) = b := h2; omega
    rw [← e]; exact .inl h7
  · have e : c = b := by have : (c : Int) = b := h2; omega
    subst e
    rcases hk with rfl | rfl
    · refine .inr ?_
      unfold startB
      rw [decide_eq_true h6]
      have hm : (⟨1, c, j, [], []⟩ : Ac) ∈ codeA c (bs.getD c []) (bs.getD c []).length := by
        unfold blkA at h5
        rw [if_pos h6] at h5
        rcases List.mem_append.1 h5 with h8 | h8
        · unfold phiA at h8
          split at h8
          · have := List.mem_singleton.1 h8
            cases this
          · cases h8
        · exact h8
      rw [chg_of_code _ hm]
      simp
    · exact absurd rfl h3
theorem up_dom (I : IdomOk sc o n l) (O : OrderOk n sc o) {b : Nat} (hb : (b : Int) ∈ o) (hb0 : b ≠ 0) {u : Nat} (hu : l[b]? = some (u : Int)) : Dom sc o u b ∧ (u : Int) ≠ b ∧ ∀ c, c ≠ (b : Int) → Dom sc o c b → Dom sc o c u := by
  have hbn := (O.bound _ hb).2
  obtain ⟨u', h1, h2, h3, -, h4, h5⟩ := I.some_ b (by omega) hb hb0
  rw [hu] at h1
  have e := Option.some.inj h1
  subst e
  exact ⟨⟨h2, hb, h4⟩, h3, fun c hc hd => ⟨hd.1, h2, h5 c hc hd.2.2⟩⟩
/-- what stands at the ends of the blocks between d and q is one -/
theorem chain_end (I : IdomOk sc o n l) (O : OrderOk n sc o) {H : Nat → Bool} {d : Nat} {q : Int} (hno : ∀ x : Nat, (x : Int) ≠ d → Dom sc o d x → Dom sc o x q → H x = false ∧ startB bs o x = false) :
    ∀ (k x : Nat), o.idxOf (x : Int) < k → Dom sc o d x → Dom sc o x q → endF (laidA bs H o n) l o x = endF (laidA bs H o n) l o d
  | 0, _, h, _, _ => by omega
  | k + 1, x, hk, h1, h2 => by
    by_cases e : (x : Int) = d
    · have : x = d := by omega
      rw [this]
    · obtain ⟨h3, h4⟩ := hno x e h1 h2
      have hn : 0 < n := by have := O.bound _ h1.2.1; omega
      have hx0 : x ≠ 0 := fun e0 => by
        subst e0
        exact e (dom_zero_only O hn I h1).symm
      obtain ⟨u, hu, -, -, hu4, hu5⟩ := up_at I O h1.2.1 hx0
      obtain ⟨d1, -, d3⟩ := up_dom I O h1.2.1 hx0 hu
      have hl : lastD (laidA bs H o n) x (laidA bs H o n).length = -1 := lastD_none fun j _ hj => by
        rcases last_src hj with h5 | h5
        · rw [h3] at h5; cases h5
        · rw [h4] at h5; cases h5
      rw [endF_eq I O h1.2.1, hl, stF_up hx0 hu (by omega)]
      exact chain_end I O hno k u (by omega) (d3 d (fun e' => e e'.symm) h1) (d1.trans_ h2)
/-- without a phi the same stands at the end of all reachable predecessors -/
theorem meet_end (I : IdomOk sc o n l) (O : OrderOk n sc o) {b q u : Nat} (hb : (b : Int) ∈ o) (hb0 : b ≠ 0) (hu : l[b]? = some (u : Int)) (hH : phH bs sc o b = false) (hq : (q : Int) ∈ o) (hs : (b : Int) ∈ sc q) :
    endF (laidA bs (phH bs sc o) o n) l o q = endF (laidA bs (phH bs sc o) o n) l o u := by
  have hn : 0 < n := by have := O.bound _ hb; omega
  obtain ⟨d1, d2, d3⟩ := up_dom I O hb hb0 hu
  have hdq : Dom sc o u q := ⟨d1.1, hq, fun hr => d1.2.2 (.step hr hs (fun e => d2 e.symm))⟩
  refine chain_end I O (q := q) (fun x hx h1 h2 => ?_) (o.idxOf (q : Int) + 1) q (Nat.lt_succ_self _) hdq (Dom.refl_ hq)
  have hfr : FrS sc o x b := ⟨q, hs, h2, by
    by_cases e : (x : Int) = b
    · exact .inl e
    · refine .inr fun hd => hx ?_
      exact Dom.anti_ I O hn (d3 x e hd) h1⟩
  constructor
  · rw [← Bool.not_eq_true]
    intro h
    rw [phH_step h hfr] at hH
    cases hH
  · rw [← Bool.not_eq_true]
    intro h
    rw [phH_base h hfr] at hH
    cases hH
/-- block 0 without a phi has no reachable predecessor -/
theorem meet_zero (O : OrderOk n sc o) {q : Int} (h0 : (0 : Int) ∈ o) (hH : phH bs sc o 0 = false) (hq : q ∈ o) (hs : (0 : Int) ∈ sc q) : False := by
  have hfr : FrS sc o (0 : Nat) (0 : Nat) := ⟨q, hs, (Dom.zero_iff h0).2 hq, .inl rfl⟩
  have hst : startB bs o 0 = true := by
    unfold startB
    rw [decide_eq_true (show ((0 : Nat) : Int) ∈ o from h0)]
    rfl
  rw [phH_base hst hfr] at hH
  cases hH
/-- the first access of a block without a phi -/
theorem first_defs {b i : Nat} {a : Ac} (I : IdomOk sc o n l) (O : OrderOk n sc o) {H : Nat → Bool} {P : List (List Int)} (hH : H b = false) (hb0 : b ≠ 0) {u : Nat} (hu : l[b]? = some (u : Int))
    (ha : (laidA bs H o n)[i]? = some a) (hab : a.block = b) (hk : a.kind = 1 ∨ a.kind = 2) (hf : ∀ (j : Nat) c, j < i → (laidA bs H o n)[j]? = some c → ¬ (c.block = b ∧ (c.kind = 1 ∨ c.kind = 2))) :
    (accD (laidA bs H o n) l o P i a).defs = [endF (laidA bs H o n) l o u] := by
  have hl : lastD (laidA bs H o n) (b : Int) i = -1 := lastD_none fun j hj hlc => by
    obtain ⟨h0, c, h1, h2, h3⟩ := hlc
    rcases kind_nat h1 with h4 | h4 | h4 | h4
    · obtain ⟨d, h5, h6, -⟩ := laidA_mem n h1 h0
      rcases (blkA_mem h6).2 with ⟨-, rfl⟩ | ⟨j', k', -, hk', rfl⟩
      · cases h4
      · rcases hk' with rfl | rfl <;> cases h4
    · exact hf j c hj h1 ⟨h2, .inl h4⟩
    · exact h3 h4
    · obtain ⟨d, h5, h6, -⟩ := laidA_mem n h1 h0
      rcases (blkA_mem h6).2 with ⟨h7, rfl⟩ | ⟨j', k', -, hk', rfl⟩
      · have e : d = b := by have : (d : Int) = b := h2; omega
        rw [e, hH] at h7
        cases h7
      · rcases hk' with rfl | rfl <;> cases h4
  unfold accD
  rw [if_pos hk]
  show [stF _ l o a.block.toNat (lastD _ a.block i)] = _
  rw [hab, hl, Int.toNat_natCast, stF_up hb0 hu (by omega)]
end
/-- what the law asks of the list of accesses -/
structure MeetOk (O : List Int) (n : Nat) (E : List Int) (H : Nat → Bool) (L : List Ac) : Prop where
  len : L.length ≤ 4000001
  block : ∀ (i : Nat) x, L[i]? = some x → 0 ≤ x.block ∧ x.block < n
  phi : ∀ (i : Nat) x, L[i]? = some x → x.kind = 3 → H x.block.toNat = true ∧ x.orig.length = x.defs.length ∧ ∀ (j : Nat) b, x.orig[j]? = some b → 0 ≤ b ∧ b < n ∧ ∃ z, E[b.toNat]? = some z ∧ x.defs[j]? = some z
  defs : ∀ (i : Nat) x d, L[i]? = some x → d ∈ x.defs → 0 ≤ d ∧ ∃ c, L[d.toNat]? = some c ∧ c.kind ≠ 2
  dlen : ∀ (i : Nat) x, L[i]? = some x → x.defs.length ≤ 2000000
  has : ∀ b : Nat, b < n → (b : Int) ∈ O → H b = true → ∃ (i : Nat) (x : Ac), L[i]? = some x ∧ x.kind = 3 ∧ x.block = b
section
variable {f : Fun} {sc : Int → List Int} {O l : List Int} {P : List (List Int)} {n : Nat}
theorem ends_reach {L : List Ac} {b : Nat} (hb : b < n) (h : (b : Int) ∈ O) : (endsL L l O n)[b]? = some (endF L l O b) := by rw [ends_at hb, if_pos h]
/-- what stands somewhere is an access that is no Load -/
theorem stands_ok {H : Nat → Bool} (I : IdomOk sc O n l) (Or : OrderOk n sc O) : ∀ (k b : Nat), (b : Int) ∈ O → O.idxOf (b : Int) < k → ∃ c, (laidA f.blocks H O n)[(endF (laidA f.blocks H O n) l O b).toNat]? = some c ∧ c.kind ≠ 2
  | 0, _, _, h => by omega
  | k + 1, b, hb, hk => by
    rw [endF_eq I Or hb]
    rcases lastD_range (L := laidA f.blocks H O n) (b := b) (laidA f.blocks H O n).length with h2 | ⟨i, h2, h3, h4⟩
    · rw [h2]
      by_cases h0 : b = 0
      · subst h0
        rw [stF_top (by omega)]
        exact ⟨_, laidA_zero n, by show (0 : Int) ≠ 2; omega⟩
      · obtain ⟨u, hu, -, -, h5, h6⟩ := up_at I Or hb h0
        rw [stF_up h0 hu (by omega)]
        exact stands_ok I Or k u h5 (by omega)
    · rw [h2, stF_here (by omega), Int.toNat_natCast]
      obtain ⟨-, c, h5, -, h6⟩ := h4
      exact ⟨c, h5, h6⟩
theorem stand_ok {H : Nat → Bool} (I : IdomOk sc O n l) (Or : OrderOk n sc O) {b i : Nat} (hb : (b : Int) ∈ O) (hi : i ≤ (laidA f.blocks H O n).length) : ∃ c, (laidA f.blocks H O n)[(stF (laidA f.blocks H O n) l O b (lastD (laidA f.blocks H O n) b i)).toNat]? = some c ∧ c.kind ≠ 2 := by
  rcases lastD_range (L := laidA f.blocks H O n) (b := b) i with h2 | ⟨j, h2, h3, h4⟩
  · rw [h2]
    by_cases h0 : b = 0
    · subst h0
      rw [stF_top (by omega)]
      exact ⟨_, laidA_zero n, by show (0 : Int) ≠ 2; omega⟩
    · obtain ⟨u, hu, -, -, h5, h6⟩ := up_at I Or hb h0
      rw [stF_up h0 hu (by omega)]
      exact stands_ok I Or _ u h5 (Nat.lt_succ_self _)
  · rw [h2, stF_here (by omega), Int.toNat_natCast]
    obtain ⟨-, c, h5, -, h6⟩ := h4
    exact ⟨c, h5, h6⟩
theorem accD_same {L : List Ac} {i : Nat} {a : Ac} : (accD L l O P i a).kind = a.kind ∧ (accD L l O P i a).block = a.block := by
  unfold accD
  split
  · exact ⟨rfl, rfl⟩
  · split <;> exact ⟨rfl, rfl⟩
theorem meet_ok {H : Nat → Bool} (hsz : funSz f ≤ 2000000) (hn : n = f.blocks.length) (hn0 : 0 < n) (I : IdomOk sc O n l) (Or : OrderOk n sc O) (hP : P = predsL sc n) :
    MeetOk O n (endsL (laidA f.blocks H O n) l O n) H (builtA (laidA f.blocks H O n) l O P) := by
  have hat : ∀ {i : Nat} {x : Ac}, (builtA (laidA f.blocks H O n) l O P)[i]? = some x → ∃ a, (laidA f.blocks H O n)[i]? = some a ∧ x = accD (laidA f.blocks H O n) l O P i a := fun {i x} h => by
    have hi := (List.getElem?_eq_some_iff.1 h).1
    have hl : (builtA (laidA f.blocks H O n) l O P).length = (laidA f.blocks H O n).length := by unfold builtA; simp
    rw [hl] at hi
    have h1 := List.getElem?_eq_getElem hi
    rw [built_at h1] at h
    exact ⟨_, h1, (Option.some.inj h).symm⟩
  have hblk : ∀ {i : Nat} {a : Ac}, (laidA f.blocks H O n)[i]? = some a → 0 < i → ∃ c : Nat, a.block = c ∧ c < n ∧ (c : Int) ∈ O := fun {i a} h h0 => by
    obtain ⟨c, h1, h2, h3, -⟩ := seg_of h h0
    exact ⟨c, h1, h2, h3⟩
  have hpos : ∀ {i : Nat} {a : Ac}, (laidA f.blocks H O n)[i]? = some a → a.kind ≠ 0 → 0 < i := fun {i a} h hk => Nat.pos_of_ne_zero fun e => by
    subst e
    rw [laidA_zero] at h
    cases h
    exact hk rfl
  have hfrom : ∀ (b : Nat) (x : Int), x ∈ fromL P O b → x ∈ O ∧ 0 ≤ x ∧ x < n := fun b x hx => by
    unfold fromL at hx
    rw [List.mem_filter] at hx
    have h1 := of_decide_eq_true hx.2
    exact ⟨h1, Or.bound x h1⟩
  have hflen : ∀ b : Nat, (fromL P O b).length ≤ n := fun b => by
    unfold fromL
    refine Nat.le_trans (List.length_filter_le ..) ?_
    rw [List.getD_eq_getElem?_getD, Int.toNat_natCast]
    cases hp : P[b]? with
    | none => simp
    | some p =>
      have hp' := hp
      rw [hP] at hp'
      exact range_len n p ((predsL_sorted hp').imp fun h => by omega) (fun x hx => ⟨((predsL_mem hp' x).1 hx).1, ((predsL_mem hp' x).1 hx).2.1⟩)
  have hnle : n ≤ 2000000 := by rw [hn]; exact (small_of hsz).blocks
  have hlen : (builtA (laidA f.blocks H O n) l O P).length = (laidA f.blocks H O n).length := by unfold builtA; simp
  refine ⟨by rw [hlen]; exact laidA_small hsz (by omega), fun i x hx => ?_, fun i x hx hk => ?_, fun i x d hx hd => ?_, fun i x hx => ?_, fun b hb hbo hH => ?_⟩
  · obtain ⟨a, h1, rfl⟩ := hat hx
    rw [accD_same.2]
    rcases Nat.eq_zero_or_pos i with h0 | h0
    · subst h0
      rw [laidA_zero] at h1
      cases h1
      exact ⟨Int.le_refl _, by show (0 : Int) < n; omega⟩
    · obtain ⟨c, h2, h3, -⟩ := hblk h1 h0
      omega
  · obtain ⟨a, h1, rfl⟩ := hat hx
    rw [accD_same.1] at hk
    have h0 := hpos h1 (by rw [hk]; omega)
    obtain ⟨c, h2, h3, h4⟩ := hblk h1 h0
    rw [accD_same.2]
    have hacc : accD (laidA f.blocks H O n) l O P i a = ⟨a.kind, a.block, a.pos, (fromL P O a.block).map fun p => endF (laidA f.blocks H O n) l O p.toNat, fromL P O a.block⟩ := by
      unfold accD
      rw [if_neg (by rw [hk]; simp), if_pos hk]
    rw [hacc]
    refine ⟨?_, by simp, fun j b hj => ?_⟩
    · obtain ⟨c', h5, h6, -⟩ := laidA_mem n h1 h0
      rcases (blkA_mem h6).2 with ⟨h7, rfl⟩ | ⟨j, k, -, hk', rfl⟩
      · simpa using h7
      · rcases hk' with rfl | rfl <;> cases hk
    · have hm := List.mem_of_getElem? hj
      obtain ⟨h5, h6, h7⟩ := hfrom c b (by rw [← h2]; exact hm)
      refine ⟨h6, h7, endF (laidA f.blocks H O n) l O b.toNat, ?_, ?_⟩
      · exact ends_reach (by omega) (by rw [Int.toNat_of_nonneg h6]; exact h5)
      · rw [List.getElem?_map, hj]; rfl
  · obtain ⟨a, h1, rfl⟩ := hat hx
    have hres : ∃ c, (laidA f.blocks H O n)[d.toNat]? = some c ∧ c.kind ≠ 2 := by
      by_cases hk : a.kind = 1 ∨ a.kind = 2
      · have hd' : d = stF (laidA f.blocks H O n) l O a.block.toNat (lastD (laidA f.blocks H O n) a.block i) := by
          unfold accD at hd
          rw [if_pos hk] at hd
          exact List.mem_singleton.1 hd
        have h0 := hpos h1 (by omega)
        obtain ⟨c, h2, h3, h4⟩ := hblk h1 h0
        rw [hd', h2, Int.toNat_natCast]
        exact stand_ok I Or h4 (Nat.le_of_lt (List.getElem?_eq_some_iff.1 h1).1)
      · by_cases hk3 : a.kind = 3
        · unfold accD at hd
          rw [if_neg hk, if_pos hk3] at hd
          obtain ⟨p, hp, rfl⟩ := List.mem_map.1 hd
          have h0 := hpos h1 (by omega)
          obtain ⟨c, h2, h3, h4⟩ := hblk h1 h0
          obtain ⟨h5, h6, h7⟩ := hfrom c p (by rw [← h2]; exact hp)
          exact stands_ok I Or _ p.toNat (by rw [Int.toNat_of_nonneg h6]; exact h5) (Nat.lt_succ_self _)
        · unfold accD at hd
          rw [if_neg hk, if_neg hk3, (laidA_bare (List.mem_of_getElem? h1)).1] at hd
          cases hd
    have hd0 : 0 ≤ d := by
      by_cases hk : a.kind = 1 ∨ a.kind = 2
      · have hd' : d = stF (laidA f.blocks H O n) l O a.block.toNat (lastD (laidA f.blocks H O n) a.block i) := by
          unfold accD at hd
          rw [if_pos hk] at hd
          exact List.mem_singleton.1 hd
        have h0 := hpos h1 (by omega)
        obtain ⟨c, h2, h3, h4⟩ := hblk h1 h0
        rw [hd', h2, Int.toNat_natCast]
        exact (stF_bound I Or (laidA_pos n) h4 (Nat.le_of_lt (List.getElem?_eq_some_iff.1 h1).1)).1
      · by_cases hk3 : a.kind = 3
        · unfold accD at hd
          rw [if_neg hk, if_pos hk3] at hd
          obtain ⟨p, hp, rfl⟩ := List.mem_map.1 hd
          have h0 := hpos h1 (by omega)
          obtain ⟨c, h2, h3, h4⟩ := hblk h1 h0
          obtain ⟨h5, h6, h7⟩ := hfrom c p (by rw [← h2]; exact hp)
          exact (endF_bound I Or (laidA_pos n) (by rw [Int.toNat_of_nonneg h6]; exact h5)).1
        · unfold accD at hd
          rw [if_neg hk, if_neg hk3, (laidA_bare (List.mem_of_getElem? h1)).1] at hd
          cases hd
    obtain ⟨c, h2, h3⟩ := hres
    exact ⟨hd0, _, built_at h2, by rw [accD_same.1]; exact h3⟩
  · obtain ⟨a, h1, rfl⟩ := hat hx
    unfold accD
    split
    · show 1 ≤ _; omega
    · split
      · rename_i hk3
        have h0 := hpos h1 (by omega)
        obtain ⟨c, h2, -⟩ := hblk h1 h0
        show ((fromL P O a.block).map _).length ≤ _
        rw [List.length_map, h2]
        have := hflen c
        omega
      · rw [(laidA_bare (List.mem_of_getElem? h1)).1]; simp
  · have h1 := seg_phi (bs := f.blocks) hb hbo hH
    exact ⟨_, _, built_at h1, by rw [accD_same.1], by rw [accD_same.2]⟩
theorem meet_nil {E : List Int} {H : Nat → Bool} : MeetOk O 0 E H [] := ⟨by simp, fun i x h => by simp at h, fun i x h => by simp at h, fun i x d h => by simp at h, fun i x h => by simp at h, fun b h => by omega⟩
/-- a reachable block without a phi, not the first: one access stands at the ends of its predecessors, and its first access stands on it -/
theorem meet_first {b : Nat} (I : IdomOk sc O n l) (Or : OrderOk n sc O) (hb : (b : Int) ∈ O) (hb0 : b ≠ 0) (hH : phH f.blocks sc O b = false) :
    ∃ onv, 0 ≤ onv ∧ (∀ q : Nat, q < n → (q : Int) ∈ O → (b : Int) ∈ sc q → (endsL (laidA f.blocks (phH f.blocks sc O) O n) l O n)[q]? = some onv) ∧
      (∀ (i : Nat) x, (builtA (laidA f.blocks (phH f.blocks sc O) O n) l O P)[i]? = some x → x.block = b → x.kind = 1 ∨ x.kind = 2 → (∀ (j : Nat) c, j < i → (builtA (laidA f.blocks (phH f.blocks sc O) O n) l O P)[j]? = some c → ¬ (c.block = b ∧ (c.kind = 1 ∨ c.kind = 2))) → x.defs = [onv]) ∧
      ∃ q : Nat, q < n ∧ (q : Int) ∈ O ∧ (b : Int) ∈ sc q := by
  obtain ⟨u, hu, -, -, huo, -⟩ := up_at I Or hb hb0
  refine ⟨_, (endF_bound (L := laidA f.blocks (phH f.blocks sc O) O n) I Or (laidA_pos n) huo).1, fun q hq hqo hs => ?_, fun i x hx hxb hk hf => ?_, ?_⟩
  · rw [ends_reach hq hqo, meet_end I Or hb hb0 hu hH hqo hs]
  · have hlen : (builtA (laidA f.blocks (phH f.blocks sc O) O n) l O P).length = (laidA f.blocks (phH f.blocks sc O) O n).length := by unfold builtA; simp
    have hi := (List.getElem?_eq_some_iff.1 hx).1
    rw [hlen] at hi
    have h1 := List.getElem?_eq_getElem hi
    rw [built_at h1] at hx
    have e := Option.some.inj hx
    rw [← e] at hxb hk ⊢
    rw [accD_same.2] at hxb
    rw [accD_same.1] at hk
    refine first_defs I Or hH hb0 hu h1 hxb hk fun j c hj hc hcc => hf j _ hj (built_at hc) ?_
    rw [accD_same.1, accD_same.2]
    exact hcc
  · obtain ⟨y, h1, p, q, h2, h3⟩ := Or.ahead b hb (by omega)
    have hy : y ∈ O := by rw [h2]; exact List.mem_append_left _ h3
    obtain ⟨h4, h5⟩ := Or.bound y hy
    obtain ⟨k, rfl⟩ := Int.eq_ofNat_of_zero_le h4
    exact ⟨k, by omega, hy, h1⟩
end
end Go.Proofs.Ytidjaohlaljmpaa
