/- MemssaMeets: where a block has no phi, the same access stands at the end of all its reachable predecessors. Condition: the function's bulk is bounded. -/
import Derived.Test.YtidjaohlaljmpaaMsO
import Derived.Test.YtidjaohlaljmpaaMsP
namespace Go.Proofs.Ytidjaohlaljmpaa
open Go.RowKit
set_option linter.unusedSimpArgs false
set_option linter.unusedVariables false

theorem below_cells {Z : World} {N : Nat} {cs : Array Value} {t : TypeId} (h : Z.heap[N]? = some (.cells cs t (0, 0))) : ∀ (j : Nat) u, cs[j]? = some u → Z.cell? ⟨N, j, none⟩ = some u := fun j u hu => by simp [World.cell?, h, hu]
/-- which blocks have a phi, by the first i accesses -/
structure HasI (n : Nat) (H : Nat → Bool) (L : List Ac) (i : Nat) (has : List Bool) : Prop where
  len : has.length = n
  sound : ∀ b : Nat, has[b]? = some true → H b = true
  full : ∀ (j : Nat) x, j < i → L[j]? = some x → x.kind = 3 → has[x.block.toNat]? = some true
section
variable {n i : Nat} {H : Nat → Bool} {L : List Ac} {has : List Bool}
theorem has_start : HasI n H L 0 (List.replicate n false) := by
  refine ⟨by simp, fun b h => ?_, fun j x h => by omega⟩
  rw [List.getElem?_replicate] at h
  split at h
  · cases h
  · cases h
theorem has_skip (h : HasI n H L i has) {x : Ac} (hx : L[i]? = some x) (hk : ¬ x.kind = 3) : HasI n H L (i + 1) has := ⟨h.len, h.sound, fun j c hj hc hk3 => by
  rcases Nat.lt_succ_iff_lt_or_eq.1 hj with h1 | h1
  · exact h.full j c h1 hc hk3
  · subst h1
    rw [hx] at hc
    cases hc
    exact absurd hk3 hk⟩
theorem has_mark (h : HasI n H L i has) {x : Ac} (hx : L[i]? = some x) (hH : H x.block.toNat = true) (hb : x.block.toNat < n) : HasI n H L (i + 1) (has.set x.block.toNat true) := by
  have hl : x.block.toNat < has.length := by rw [h.len]; exact hb
  refine ⟨by rw [List.length_set]; exact h.len, fun b hb' => ?_, fun j c hj hc hk3 => ?_⟩
  · rcases set_true_or hb' with h1 | h1
    · exact h.sound b h1
    · rw [h1]; exact hH
  · rcases Nat.lt_succ_iff_lt_or_eq.1 hj with h1 | h1
    · exact set_true (h.full j c h1 hc hk3) hl
    · subst h1
      rw [hx] at hc
      cases hc
      exact List.getElem?_set_self hl
theorem has_done {O E : List Int} (h : HasI n H L L.length has) (hok : MeetOk O n E H L) {b : Nat} (hb : b < n) (hbo : (b : Int) ∈ O) : has[b]? = some (H b) := by
  have hl : b < has.length := by rw [h.len]; exact hb
  have hg := List.getElem?_eq_getElem hl
  cases hH : H b with
  | true =>
    obtain ⟨i, x, h1, h2, h3⟩ := hok.has b hb hbo hH
    have := h.full i x (List.getElem?_eq_some_iff.1 h1).1 h1 h2
    rwa [h3, Int.toNat_natCast] at this
  | false =>
    cases hv : has[b] with
    | false => rw [hg, hv]
    | true =>
      have := h.sound b (by rw [hg, hv])
      rw [this] at hH
      cases hH
end
set_option maxRecDepth 100000 in
set_option maxHeartbeats 12800000 in
theorem law_memssa_meets (f : Fun) (c1 c2 : Value) (w : World) (hf : RFun.rep w w.heap.size [.string f.name, c1, .int .i64 f.ret, c2] f) (hs : Small f) (hsz : funSz f ≤ 2000000) :
    Calls Try.prog 8 #[f.v c1 c2] w (LawPost w) := by
  obtain ⟨hp, hb⟩ := fun_open (RFun.later hf (Below.refl _ _) (Nat.le_refl _))
  obtain ⟨A1, k1, h1, -, -⟩ := Rp.slice1_open hp
  obtain ⟨A2, k2, h2, hm2, -⟩ := Rp.slice1_open hb
  cases h1; cases h2
  clear hp hb
  obtain ⟨-, hb⟩ := fun_open (RFun.later hf (Below.refl _ _) (Nat.le_refl _))
  obtain ⟨A2', k2', h2', -, gb⟩ := Rp.slice1_open hb
  cases h2'
  clear hb
  replace gb := hide gb
  obtain ⟨n, hn⟩ : ∃ n, Hid (n = f.blocks.length) := ⟨_, hide rfl⟩
  have hnle : n ≤ 2000000 := by rw [hn.out]; exact hs.blocks
  obtain ⟨O, hO⟩ : ∃ O, Hid (O = orderF f.blocks) := ⟨_, hide rfl⟩
  obtain ⟨sc, hsc⟩ : ∃ sc, Hid (sc = succsF f.blocks) := ⟨_, hide rfl⟩
  obtain ⟨R, hR⟩ : ∃ R, Hid (R = reachF f.blocks) := ⟨_, hide rfl⟩
  obtain ⟨P, hP⟩ : ∃ P, Hid (P = predsL sc n) := ⟨_, hide rfl⟩
  have hPl : P.length = n := by rw [hP.out, predsL_len]
  have hRl : R.length = n := by rw [hR.out, hn.out, reach_len]
  have hsok : Hid (∀ b, SuccOk n (sc b)) := hide (fun b => by rw [hsc.out, hn.out]; exact succsF_ok _ _)
  have hok : Hid (OrderOk n sc O) := hide (by rw [hO.out, hn.out, hsc.out]; exact order_ok _)
  have hol : O.length ≤ n := by rw [hO.out, hn.out]; exact order_len _
  have hRat : Hid (∀ k : Nat, k < n → R[k]? = some (decide ((k : Int) ∈ O))) := hide (fun k hk => by rw [hR.out, hO.out]; exact reach_at _ _ (by rw [← hn.out]; exact hk))
  rw [← hn.out]
  rw [← hn.out] at hf hm2
  obtain ⟨W, hW, hwW, hWs, hx⟩ := boxes1 w #[.string f.name, .slice A1 f.params.length k1, .int .i64 f.ret, .slice A2 n k2] 25
  have q0 : ∀ w', Below W.heap.size W w' → w'.cell? ⟨w.heap.size, 0, none⟩ = some (.string f.name) := hx 0 _ rfl
  have q1 : ∀ w', Below W.heap.size W w' → w'.cell? ⟨w.heap.size, 1, none⟩ = some (.slice A1 f.params.length k1) := hx 1 _ rfl
  have q2 : ∀ w', Below W.heap.size W w' → w'.cell? ⟨w.heap.size, 2, none⟩ = some (.int .i64 f.ret) := hx 2 _ rfl
  have q3 : ∀ w', Below W.heap.size W w' → w'.cell? ⟨w.heap.size, 3, none⟩ = some (.slice A2 n k2) := hx 3 _ rfl
  clear hx
  have hws : w.heap.size ≤ W.heap.size := by omega
  replace hWs := hide hWs
  have hself := Below.refl W.heap.size W
  have hF : Hid (∀ w', Below W.heap.size W w' → RFun.rep w' w'.heap.size [.string f.name, .slice A1 f.params.length k1, .int .i64 f.ret, .slice A2 n k2] f) := hide (fun w' h => RFun.later hf (hwW.trans (h.mono hws)) (hwW.trans (h.mono hws)).size)
  have cR : Hid (∀ w', Below W.heap.size W w' → Calls Try.prog 24 #[f.v (.slice A1 f.params.length k1) (.slice A2 n k2)] w' (ReachPost n R w')) := hide (fun w' h => by
    have := reach_any f (.slice A1 f.params.length k1) (.slice A2 n k2) w' w'.heap.size (Nat.le_refl _) (hF.out w' h) hs
    rwa [← hn.out, ← hR.out] at this)
  have cP : Hid (∀ w', Below W.heap.size W w' → Calls Try.prog 25 #[f.v (.slice A1 f.params.length k1) (.slice A2 n k2)] w' (PredPost n P w')) := hide (fun w' h => by
    have := preds_any f (.slice A1 f.params.length k1) (.slice A2 n k2) w' w'.heap.size (Nat.le_refl _) (hF.out w' h) hs
    rwa [← hn.out, ← hsc.out, ← hP.out] at this)
  obtain ⟨lb, hlb⟩ : ∃ lb, Hid (lb = long19F f) := ⟨_, hide rfl⟩
  have cL : Hid (∀ w', Below W.heap.size W w' → Calls Try.prog 29 #[f.v (.slice A1 f.params.length k1) (.slice A2 n k2)] w' (RetB lb w')) := hide (fun w' h => by
    have := long19_any f (.slice A1 f.params.length k1) (.slice A2 n k2) w' w'.heap.size (Nat.le_refl _) (hF.out w' h) hsz
    rwa [← hlb.out] at this)
  have cB : Hid (∀ w', Below W.heap.size W w' → Calls Try.prog 30 #[f.v (.slice A1 f.params.length k1) (.slice A2 n k2)] w' (MBuildPost f (phF f) O sc P n w')) := hide (fun w' h => by
    have := mbuild_any f (.slice A1 f.params.length k1) (.slice A2 n k2) w' w'.heap.size (Nat.le_refl _) (hF.out w' h) hsz
    rwa [← hO.out, ← hsc.out, ← hn.out, ← hP.out] at this)
  have cE : Hid (∀ w', Below W.heap.size W w' → Calls Try.prog 34 #[f.v (.slice A1 f.params.length k1) (.slice A2 n k2)] w' (EndsPost f (phF f) O sc n w')) := hide (fun w' h => by
    have := mends_any f (.slice A1 f.params.length k1) (.slice A2 n k2) w' w'.heap.size (Nat.le_refl _) (hF.out w' h) hsz
    rwa [← hO.out, ← hsc.out, ← hn.out] at this)
  have hphF : Hid (phF f = phH f.blocks sc O) := hide (by rw [hsc.out, hO.out]; rfl)
  replace hs := hide hs
  replace hf := hide hf
  replace hwW := hide hwW
  obtain ⟨b0, hb0, hx0, hx1, hx2⟩ := cinfo_parts cinfo_bool
  replace hb0 := hide hb0
  replace hx0 := hide hx0
  replace hx1 := hide hx1
  replace hx2 := hide hx2
  replace hW := hide hW
  go_enter Try.func8, Try.ntmps8
  go_upto_region 1 with (fail)
  rw [hW.out]
  go_wp2_with (fail)
  refine (lives19_any _).mono ?_
  rintro e w1 ⟨rfl, hb1⟩
  go_wp2_with (fail)
  refine (cL.out _ hb1).mono ?_
  rintro e w2 ⟨rfl, hb2⟩
  have hbel2 := hb1.trans (hb2.mono hb1.size)
  clear hb1 hb2 cL
  cases lb with
  | true =>
    go_wp2
    go_ret
    exact ⟨rfl, hwW.out.trans (hbel2.mono hws)⟩
  | false =>
    have hs2 := hbel2.size
    have z0 : ∀ w', Below w2.heap.size w2 w' → w'.cell? ⟨w.heap.size, 0, none⟩ = some (.string f.name) := fun w' h => q0 w' (hbel2.trans (h.mono hs2))
    have z1 : ∀ w', Below w2.heap.size w2 w' → w'.cell? ⟨w.heap.size, 1, none⟩ = some (.slice A1 f.params.length k1) := fun w' h => q1 w' (hbel2.trans (h.mono hs2))
    have z2 : ∀ w', Below w2.heap.size w2 w' → w'.cell? ⟨w.heap.size, 2, none⟩ = some (.int .i64 f.ret) := fun w' h => q2 w' (hbel2.trans (h.mono hs2))
    have z3 : ∀ w', Below w2.heap.size w2 w' → w'.cell? ⟨w.heap.size, 3, none⟩ = some (.slice A2 n k2) := fun w' h => q3 w' (hbel2.trans (h.mono hs2))
    have hW2 : Hid (∀ w', Below w2.heap.size w2 w' → Below W.heap.size W w') := hide (fun w' h => hbel2.trans (h.mono hs2))
    have hself2 := Below.refl w2.heap.size w2
    clear q0 q1 q2 q3 hself
    go_upto_region 5 with (fail)
    go_region_held3 (fun w' => Below w2.heap.size w2 w') (first | (with_reducible assumption) | exact hself2.drew)
      (first
        | (go_at_call 24; refine (cR.out _ (hW2.out _ hk3)).mono ?_; rintro e X ⟨gr, rfl, hrr, hb6⟩; have hkX : Below w2.heap.size w2 X := hk3.trans (hb6.mono hk3.size))
        | (go_at_call 25; refine (cP.out _ (hW2.out _ hk2)).mono ?_; rintro e w5 ⟨gP, csP, rfl, hLP, hb5⟩; have hk3 : Below w2.heap.size w2 w5 := hk2.trans (hb5.mono hk2.size))
        | (go_at_call 34; refine (cE.out _ (hW2.out _ hk1)).mono ?_; rintro e w4 ⟨ge, l', rfl, hI', hNE, hb4⟩; obtain ⟨E, hE⟩ : ∃ E, Hid (E = endsL (laidA f.blocks (phF f) O n) l' O n) := ⟨_, hide rfl⟩; rw [← hE.out] at hNE; have hk2 : Below w2.heap.size w2 w4 := hk1.trans (hb4.mono hk1.size); replace hI' := hide hI')
        | (go_at_call 30; refine (cB.out _ (hW2.out _ hself2.drew)).mono ?_; rintro e w3 ⟨v, l, es, rfl, hI, hA, hb3⟩; obtain ⟨L, hL⟩ : ∃ L, Hid (L = if n = 0 then [] else builtA (laidA f.blocks (phF f) O n) l O P) := ⟨_, hide rfl⟩; rw [← hL.out] at hA; obtain ⟨N, hN⟩ : ∃ N, Hid (N = L.length) := ⟨_, hide rfl⟩; obtain ⟨Aa, Ca, rfl⟩ := row_form hA.row; rw [← hN.out] at hA ⊢; have hk1 : Below w2.heap.size w2 w3 := hself2.drew.trans (hb3.mono (Nat.le_refl _)); replace hA := hide hA; replace hI := hide hI; clear hb3))
    have hbX := hbel2.trans (hkX.mono hs2)
    have hsX := hbX.size
    have hb46 := hb5.trans (hb6.mono hb5.size)
    have hb36 := hb4.trans (hb46.mono hb4.size)
    have hAX := hide (hA.out.below hb36)
    have hEX := hide (hNE.below hb46)
    have hpr := hide (rows_reads (hLP.below hb6) hPl)
    have hll : Hid (0 < n → l' = l) := hide (fun h => (hI'.out h).unique (hI.out h) hok.out)
    have hmeet : Hid (MeetOk O n E (phF f) L) := hide (by
      by_cases h0 : n = 0
      · rw [hL.out, if_pos h0, h0]
        exact meet_nil
      · rw [hL.out, if_neg h0, hE.out, hll.out (by omega)]
        exact meet_ok hsz hn.out (by omega) (hI.out (by omega)) hok.out hP.out)
    have hfst : Hid (∀ b : Nat, b < n → (b : Int) ∈ O → b ≠ 0 → phF f b = false → ∃ onv, 0 ≤ onv ∧ (∀ q : Nat, q < n → (q : Int) ∈ O → (b : Int) ∈ sc q → E[q]? = some onv) ∧
        (∀ (i : Nat) x, L[i]? = some x → x.block = b → x.kind = 1 ∨ x.kind = 2 → (∀ (j : Nat) c, j < i → L[j]? = some c → ¬ (c.block = b ∧ (c.kind = 1 ∨ c.kind = 2))) → x.defs = [onv]) ∧ ∃ q : Nat, q < n ∧ (q : Int) ∈ O ∧ (b : Int) ∈ sc q) := hide (fun b hb hbo hb0 hH => by
      have h := meet_first (f := f) (P := P) (hI.out (by omega)) hok.out hbo hb0 (by rw [← hphF.out]; exact hH)
      rw [← hphF.out] at h
      rw [hL.out, if_neg (by omega), hE.out, hll.out (by omega)]
      exact h)
    have hzero : Hid (phF f 0 = false → ∀ q : Int, q ∈ O → (0 : Int) ∈ sc q → False) := hide (fun hH q hq hs0 => by
      have h0 : 0 < n := by have := hok.out.bound q hq; omega
      exact meet_zero (bs := f.blocks) hok.out (ord_ok hok.out h0).zero (by rw [← hphF.out]; exact hH) hq hs0)
    have hNle : N ≤ 4000001 := by rw [hN.out]; exact hmeet.out.len
    have hrd : Hid (∀ k : Nat, k < n → ∀ w', Below X.heap.size X w' → w'.cell? ⟨gr, k, none⟩ = some (.bool (decide ((k : Int) ∈ O)))) := hide (fun k hk w' h => OwnB.cell (row_kept hrr fun q hq => h.block q (row_lt hrr hq).2.1) (hRat.out k hk) hk)
    have hed : Hid (∀ (k : Nat) z, E[k]? = some z → ∀ w', Below X.heap.size X w' → w'.cell? ⟨ge, k, none⟩ = some (.int .i64 z)) := hide (fun k z hk w' h => (hEX.out.below h).cell hk)
    have hPm : Hid (∀ (k : Nat) p, P[k]? = some p → p.length ≤ 2000000 ∧ ∀ x, x ∈ p → (0 ≤ x ∧ x < n ∧ (k : Int) ∈ sc x)) := hide (fun k p hk => by
      rw [hP.out] at hk
      have hm := fun x => predsL_mem hk x
      have := range_len n p ((predsL_sorted hk).imp fun h => by omega) (fun x hx => ⟨((hm x).1 hx).1, ((hm x).1 hx).2.1⟩)
      exact ⟨by omega, fun x hx => (hm x).1 hx⟩)
    have hPin : Hid (∀ (k : Nat) p, P[k]? = some p → ∀ x : Int, 0 ≤ x → x < n → (k : Int) ∈ sc x → x ∈ p) := hide (fun k p hk x h1 h2 h3 => by
      rw [hP.out] at hk
      exact (predsL_mem hk x).2 ⟨h1, h2, h3⟩)
    have hbO : Hid (∀ w', Below X.heap.size X w' → Below w.heap.size w w') := hide (fun w' h => hwW.out.trans ((hbX.trans (h.mono hsX)).mono hws))
    have p3 : ∀ w', Below X.heap.size X w' → w'.cell? ⟨w.heap.size, 3, none⟩ = some (.slice A2 n k2) := fun w' h => z3 w' (hkX.trans (h.mono hkX.size))
    have hselfX := Below.refl X.heap.size X
    replace hsz := hide hsz
    replace hs2 := hide hs2
    clear hA hNE hLP hrr hb4 hb5 hb6 hb46 hb36 hbel2 z0 z1 z2 z3 hself2 cB cE cP cR hF hI hI' hk1 hk2 hk3 hkX hW2 hEX hll gb
    go_upto_region 6 with (fail)
    go_cut [53] (fun s wx => s = .bool false ∧ wx = X)
    case first =>
      go_wp2
      go_meet
      exact ⟨by first | rfl | simp, rfl⟩
    case rest =>
      obtain ⟨rfl, hw9⟩ := hcut
      subst hw9
      rename World => X
      go_wp2_with (at_make; refine wpList_make_full _ rfl (.tmp 56) (.tmp 56) _ rfl X.heap.size 4 b0 _ 1 Try.underlying42 hb0.out hx0.out hx1.out .i64 .i64 n n n rfl rfl rfl rfl ?c1 ?c2 (Nat.le_refl _) ?_)
      case c1 => rw [hx2.out]; omega
      case c2 => unfold maxLen; omega
      intro Y hown3 hg3
      have hbel3 := below_grown0 hg3
      have hmk3 : Hid (Y.ownsRow X.heap.size 4 1 (.slice (some ⟨X.heap.size, 0, none⟩) n n) n ((List.replicate n false).map Value.bool)) := hide (made_bools hown3)
      have hG3 : X.heap.size < Y.heap.size := (row_lt hmk3.out (k := X.heap.size) rfl).2.1
      obtain ⟨GH, hGH⟩ : ∃ GH, Hid (GH = X.heap.size) := ⟨_, hide rfl⟩
      rw [← hGH.out] at hmk3 ⊢
      clear hown3 hg3
      have hbY := hbel3
      have hXY : Hid (∀ w', Below X.heap.size X w' → True) := hide (fun _ _ => trivial)
      have hst := hide (has_start (n := n) (H := phF f) (L := L))
      go_wp2
      go_loopg [60] N (fun g s wr => ∃ (i : Nat) (has : List Bool), s = .int .i64 i ∧ Hid (g + i = N) ∧ Hid (wr.ownsRow GH 4 1 (.slice (some ⟨GH, 0, none⟩) n n) n (has.map Value.bool)) ∧ Hid (HasI n (phF f) L i has) ∧ Below X.heap.size X wr)
      case atStart => exact ⟨0, _, rfl, hide rfl, hmk3, hst, hbY⟩
      case round =>
        clear hmk3 hst hbY hbel3 hselfX
        rename World => V
        obtain ⟨i, has, rfl, hg, hmk, hHas, hbel⟩ := hrel
        have hi : i ≤ N := by have := hg.out; omega
        have hVs := hbel.size
        by_cases hlti : i < N
        · have hii : (i : Int) < (N : Int) := by omega
          obtain ⟨g', hg'⟩ : ∃ g', Hid (g' + (i + 1) = N) := ⟨N - (i + 1), hide (by omega)⟩
          have hgg : Hid (g' < gk) := hide (by have := hg'.out; have := hg.out; omega)
          obtain ⟨go, hgo⟩ : ∃ go, Aa = some ⟨go, 0, none⟩ := by
            obtain ⟨g, cap, hv, -, -⟩ := hAX.out.row.form (by rw [← hN.out]; omega)
            simp only [Value.slice.injEq] at hv
            exact ⟨g, hv.1⟩
          subst hgo
          obtain ⟨a, ha⟩ := get_ex (l := L) (k := i) (by rw [← hN.out]; exact hlti)
          have hAV := hAX.out.below hbel
          obtain ⟨⟨ed, ef⟩, he⟩ := hAV.at_ ha.out
          obtain ⟨w0, w1, w2, w3, w4⟩ := hAV.cells ha.out he
          obtain ⟨hdI, hfI⟩ := hAV.inn i _ _ ha.out he
          obtain ⟨Ad, Cd, hd⟩ := row_form hdI.row
          obtain ⟨Af, Cf, hff⟩ := row_form hfI.row
          have hd : ed = _ := hd
          have hff : ef = _ := hff
          subst hd
          subst hff
          obtain ⟨Z, hZ, hwZ, hZs, hzc⟩ := boxes1 V #[.int .i64 a.kind, .int .i64 a.block, .int .i64 a.pos, .slice Ad a.defs.length Cd, .slice Af a.orig.length Cf] 57
          have hbelZ : Below X.heap.size X Z := hbel.trans (hwZ.mono hVs)
          have hGV := row_lt hmk.out (k := GH) rfl
          obtain ⟨hGV1, hGV2, -⟩ := hGV
          have hmkZ : Hid (Z.ownsRow GH 4 1 (.slice (some ⟨GH, 0, none⟩) n n) n (has.map Value.bool)) := hide (row_kept hmk.out fun q hq => hwZ.block q (row_lt hmk.out hq).2.1)
          obtain ⟨hbl1, hbl2⟩ := hmeet.out.block i a ha.out
          obtain ⟨kb, hkb⟩ := Int.eq_ofNat_of_zero_le hbl1
          rw [hkb] at hbl1 hbl2
          have hkbn : kb < n := by omega
          have nb1 : ¬ ((kb : Int) < 0) := by omega
          have nb2 : ¬ ((kb : Int) ≥ (n : Int)) := by omega
          have y0 := hzc 0 _ rfl Z (Below.refl _ _)
          have y1 := hzc 1 _ rfl Z (Below.refl _ _)
          have hzc' := hide hzc
          rw [hkb] at y1
          have p3Z := p3 Z hbelZ
          have hVZ : V.heap.size < Z.heap.size := by omega
          replace hkb := hide hkb
          replace hAV := hide hAV
          replace he := hide he
          replace hdI := hide hdI
          replace hfI := hide hfI
          replace hwZ := hide hwZ
          replace hZs := hide hZs
          replace hZ := hide hZ
          clear hzc hbel hVs
          go_upto_region 12 with (fail)
          rw [hZ.out]
          clear hZ w0 w1 w2 w3 w4
          go_upto_if 77 with (fail)
          go_cut [] (fun wx => ∃ has', Hid (wx.ownsRow GH 4 1 (.slice (some ⟨GH, 0, none⟩) n n) n (has'.map Value.bool)) ∧ Hid (HasI n (phF f) L (i + 1) has') ∧ Only (fun q => q = GH) Z.heap.size Z wx)
          case first =>
            by_cases hk3 : a.kind = 3
            · have b3 : (a.kind == 3) = true := by rw [hk3]; rfl
              obtain ⟨hH3, hol, hoe⟩ := hmeet.out.phi i a ha.out hk3
              obtain ⟨u, hu⟩ := get_ex (l := has) (k := kb) (by rw [hHas.out.len]; exact hkbn)
              have s1 : Z.cell? ⟨GH, kb, none⟩ = some (.bool u) := OwnB.cell hmkZ.out hu.out hkbn
              have f1 : Z.frozen? ⟨GH, kb, none⟩ = false := World.ownsRow.frozenAt hmkZ.out kb
              have st := (World.ownsRow.stored hmkZ.out kb (.bool true)).1
              rw [bmap_set] at st
              have hHas2 : Hid (HasI n (phF f) L (i + 1) (has.set kb true)) := hide (by
                have e : a.block.toNat = kb := by rw [hkb.out]; rfl
                have h := has_mark hHas.out ha.out hH3 (by rw [e]; exact hkbn)
                rwa [e] at h)
              have ho1 : Only (fun q => q = GH) Z.heap.size Z (Z.setCell ⟨GH, kb, none⟩ (.bool true)) := Only.setCell (p := ⟨GH, kb, none⟩) (Only.refl (fun q => q = GH) _ _) (.inl rfl) _
              replace st := hide st
              replace hk3 := hide hk3
              replace hoe := hide hoe
              go_upto_region 16 with (fail)
              clear s1 f1 y0 y1
              obtain ⟨Z1, hZ1⟩ : ∃ Z1, Hid (Z.setCell ⟨GH, kb, none⟩ (.bool true) = Z1) := ⟨_, hide rfl⟩
              rw [hZ1.out] at st ho1 ⊢
              clear hZ1
              have hs1 := ho1.size
              have y3 : ∀ w', Below Z1.heap.size Z1 w' → w'.cell? ⟨V.heap.size, 3, none⟩ = some (.slice Ad a.defs.length Cd) := fun w' h => by
                rw [h.cell (p := ⟨V.heap.size, 3, none⟩) (by show V.heap.size < Z1.heap.size; omega), ho1.cell (p := ⟨V.heap.size, 3, none⟩) hVZ (by show ¬ V.heap.size = GH; omega)]
                exact hzc'.out 3 _ rfl Z (Below.refl _ _)
              have y4 : ∀ w', Below Z1.heap.size Z1 w' → w'.cell? ⟨V.heap.size, 4, none⟩ = some (.slice Af a.defs.length Cf) := fun w' h => by
                rw [h.cell (p := ⟨V.heap.size, 4, none⟩) (by show V.heap.size < Z1.heap.size; omega), ho1.cell (p := ⟨V.heap.size, 4, none⟩) hVZ (by show ¬ V.heap.size = GH; omega), ← hol]
                exact hzc'.out 4 _ rfl Z (Below.refl _ _)
              have hX1 : Hid (∀ w', Below Z1.heap.size Z1 w' → Below X.heap.size X w') := hide (fun w' h => hbelZ.trans ((ho1.then_below (Nat.le_refl _) h).to_below (fun q hq => by have e : q = GH := hq; rw [e, hGH.out]; exact Nat.le_refl _) hbelZ.size))
              have hself1 := Below.refl Z1.heap.size Z1
              have hAZ := hAX.out.below (hX1.out Z1 hself1)
              obtain ⟨e', he'⟩ := hAZ.at_ ha.out
              obtain ⟨hd2, hf2⟩ := hAZ.inn i _ _ ha.out he'
              obtain ⟨q0, q1, q2, q3, q4⟩ := hAZ.cells ha.out he'
              have hVe : e' = ⟨.slice Ad a.defs.length Cd, .slice Af a.orig.length Cf⟩ := by
                have h := he.out
                rw [he'] at h
                exact Option.some.inj h
              subst hVe
              obtain ⟨A9, C9, e9, rd⟩ := int_reads hd2
              obtain ⟨A8, C8, e8, rf⟩ := int_reads hf2
              cases e9
              cases e8
              obtain ⟨m, hm⟩ : ∃ m, Hid (m = a.defs.length) := ⟨_, hide rfl⟩
              rw [← hm.out] at y3 y4
              have hml9 : m ≤ 2000000 := by rw [hm.out]; exact hmeet.out.dlen i a ha.out
              have hom : a.orig.length = m := by rw [hol, hm.out]
              rw [hom] at rf
              rw [← hm.out] at rd
              replace rd := hide rd
              replace rf := hide rf
              replace hd2 := hide hd2
              replace hf2 := hide hf2
              replace hAZ := hide hAZ
              replace he' := hide he'
              replace hol := hide hol
              clear q0 q1 q2 q3 q4
              go_wp2
              go_loopg [92] m (fun g s wr => ∃ j : Nat, s = .int .i64 j ∧ Hid (g + j = m) ∧ Below Z1.heap.size Z1 wr)
              case atStart => exact ⟨0, rfl, hide rfl, hself1⟩
              case round =>
                clear hself1
                rename World => V1
                obtain ⟨j, rfl, hgj, hbel⟩ := hrel
                have hj : j ≤ m := by have := hgj.out; omega
                by_cases hltj : j < m
                · have hjj : (j : Int) < (m : Int) := by omega
                  obtain ⟨g2, hg2⟩ : ∃ g2, Hid (g2 + (j + 1) = m) := ⟨m - (j + 1), hide (by omega)⟩
                  have hgg2 : Hid (g2 < gk) := hide (by have := hg2.out; have := hgj.out; omega)
                  obtain ⟨bq, hbq⟩ := get_ex (l := a.orig) (k := j) (by omega)
                  obtain ⟨hq1, hq2, z, hz1, hz2⟩ := hoe.out j bq hbq.out
                  obtain ⟨bn, rfl⟩ := Int.eq_ofNat_of_zero_le hq1
                  rw [Int.toNat_natCast] at hz1
                  obtain ⟨g5, hg5, r5⟩ := rf.out (by omega)
                  obtain ⟨g6, hg6, r6⟩ := rd.out (by omega)
                  subst hg5
                  subst hg6
                  have v5 := r5 j _ hbq.out V1 hbel
                  have v6 := r6 j _ hz2 V1 hbel
                  have v7 := hed.out bn z hz1 V1 (hX1.out V1 hbel)
                  have v3 := y3 V1 hbel
                  have v4 := y4 V1 hbel
                  have c1 : ¬ ((bn : Int) < 0) := by omega
                  have c2 : ¬ ((bn : Int) ≥ (n : Int)) := by omega
                  have c3 : decide ((bn : Int) < 0) = false := decide_eq_false (by omega)
                  have c4 : decide ((n : Int) ≤ (bn : Int)) = false := decide_eq_false (by omega)
                  have c5 : (bn : Int) < (n : Int) := by omega
                  replace hz1 := hide hz1
                  replace hz2 := hide hz2
                  clear r5 r6
                  go_upto_region 21 with (fail)
                  go_quiet (fail)
                  go_wp2
                  go_roundg g2
                  case measure => exact hgg2.out
                  case rel => exact ⟨j + 1, by go_num, hg2, below_drewN hbel _⟩
                · obtain rfl : j = m := by omega
                  have hmk9 : Hid (V1.ownsRow GH 4 1 (.slice (some ⟨GH, 0, none⟩) n n) n ((has.set kb true).map Value.bool)) := hide (row_kept st.out fun q hq => hbel.block q (row_lt st.out hq).2.1)
                  have ho9 := hide (ho1.then_below (Nat.le_refl _) hbel)
                  clear y3 y4
                  go_wp2
                  go_meet
                  exact ⟨_, hmk9, hHas2, ho9.out⟩
            · have b3 : (a.kind == 3) = false := by rw [beq_eq_false_iff_ne]; exact hk3
              have hHas2 := hide (has_skip hHas.out ha.out hk3)
              replace hk3 := hide hk3
              go_wp2
              go_meet
              exact ⟨has, hmkZ, hHas2, Only.refl _ _ _⟩
          case rest =>
            obtain ⟨has2, hmk2, hHas2, ho2⟩ := hcut
            rename World => Z2
            have hs2 := ho2.size
            have hX2 : Hid (∀ w', Below Z2.heap.size Z2 w' → Below X.heap.size X w') := hide (fun w' h => hbelZ.trans ((ho2.then_below (Nat.le_refl _) h).to_below (fun q hq => by have e : q = GH := hq; rw [e, hGH.out]; exact Nat.le_refl _) hbelZ.size))
            have hself2 := Below.refl Z2.heap.size Z2
            have y3 : ∀ w', Below Z2.heap.size Z2 w' → w'.cell? ⟨V.heap.size, 3, none⟩ = some (.slice Ad a.defs.length Cd) := fun w' h => by
              rw [h.cell (p := ⟨V.heap.size, 3, none⟩) (by show V.heap.size < Z2.heap.size; omega), ho2.cell (p := ⟨V.heap.size, 3, none⟩) hVZ (by show ¬ V.heap.size = GH; omega)]
              exact hzc'.out 3 _ rfl Z (Below.refl _ _)
            have hAZ := hAX.out.below (hX2.out Z2 hself2)
            obtain ⟨e', he'⟩ := hAZ.at_ ha.out
            have hVe : e' = ⟨.slice Ad a.defs.length Cd, .slice Af a.orig.length Cf⟩ := by
              have h := he.out
              rw [he'] at h
              exact Option.some.inj h
            subst hVe
            obtain ⟨hd2, -⟩ := hAZ.inn i _ _ ha.out he'
            obtain ⟨A9, C9, e9, rd⟩ := int_reads hd2
            cases e9
            have hdl := hmeet.out.dlen i a ha.out
            obtain ⟨m, hm⟩ : ∃ m, Hid (m = a.defs.length) := ⟨_, hide rfl⟩
            rw [← hm.out] at y3 rd hdl
            replace rd := hide rd
            replace hd2 := hide hd2
            replace hAZ := hide hAZ
            replace he' := hide he'
            clear y0 y1 hmk hmkZ hHas
            go_wp2
            go_loopg [121] m (fun g s wr => ∃ j : Nat, s = .int .i64 j ∧ Hid (g + j = m) ∧ Below Z2.heap.size Z2 wr)
            case atStart => exact ⟨0, rfl, hide rfl, hself2⟩
            case round =>
              obtain ⟨gk0, hgk0⟩ : ∃ gk0, Hid (gk0 = gk) := ⟨_, hide rfl⟩
              clear hself2
              rename World => V1
              obtain ⟨j, rfl, hgj, hbel⟩ := hrel
              have hj : j ≤ m := by have := hgj.out; omega
              by_cases hltj : j < m
              · have hjj : (j : Int) < (m : Int) := by omega
                obtain ⟨g2, hg2⟩ : ∃ g2, Hid (g2 + (j + 1) = m) := ⟨m - (j + 1), hide (by omega)⟩
                have hgg2 : Hid (g2 < gk) := hide (by have := hg2.out; have := hgj.out; omega)
                obtain ⟨dd, hdd⟩ := get_ex (l := a.defs) (k := j) (by rw [← hm.out]; exact hltj)
                obtain ⟨hd1, c, hc1, hc2⟩ := hmeet.out.defs i a dd ha.out (List.mem_of_getElem? hdd.out)
                obtain ⟨dn, rfl⟩ := Int.eq_ofNat_of_zero_le hd1
                rw [Int.toNat_natCast] at hc1
                have hdn : dn < N := by rw [hN.out]; exact (List.getElem?_eq_some_iff.1 hc1).1
                obtain ⟨g6, hg6, r6⟩ := rd.out (by omega)
                subst hg6
                have v6 := r6 j _ hdd.out V1 hbel
                have hA1 := hAX.out.below (hX2.out V1 hbel)
                obtain ⟨ec, hec⟩ := hA1.at_ hc1
                have v0 := (hA1.cells hc1 hec).1
                have c1 : ¬ ((dn : Int) < 0) := by omega
                have c2 : ¬ ((dn : Int) ≥ (N : Int)) := by omega
                have c5 : (dn : Int) < (N : Int) := by omega
                have c6 : (c.kind == 2) = false := by rw [beq_eq_false_iff_ne]; exact hc2
                have v3 := y3 V1 hbel
                replace hc1 := hide hc1
                replace hec := hide hec
                replace hA1 := hide hA1
                replace hc2 := hide hc2
                clear r6
                go_wp2
                go_roundg g2
                case measure => exact hgg2.out
                case rel => exact ⟨j + 1, by go_num, hg2, hbel⟩
              · obtain rfl : j = m := by omega
                have hmk9 : Hid (V1.ownsRow GH 4 1 (.slice (some ⟨GH, 0, none⟩) n n) n (has2.map Value.bool)) := hide (row_kept hmk2.out fun q hq => hbel.block q (row_lt hmk2.out hq).2.1)
                have hbX9 := hide (hX2.out V1 hbel)
                clear y3
                go_wp2
                go_roundg g'
                case measure => exact hgg.out
                case rel => exact ⟨i + 1, has2, by go_num, hg', hmk9, hHas2, hbX9.out⟩
        · obtain rfl : i = N := by omega
          have hfinal : Hid (∀ b : Nat, b < n → (b : Int) ∈ O → has[b]? = some (phF f b)) := hide (fun b hb hbo => has_done (by rw [← hN.out]; exact hHas.out) hmeet.out hb hbo)
          have hhd : Hid (∀ (b : Nat) hb, has[b]? = some hb → ∀ w', Below V.heap.size V w' → w'.cell? ⟨GH, b, none⟩ = some (.bool hb)) := hide (fun b hb hhb w' h => OwnB.cell (row_kept hmk.out fun q hq => h.block q (row_lt hmk.out hq).2.1) hhb (by have := (List.getElem?_eq_some_iff.1 hhb).1; have := hHas.out.len; omega))
          have hXV : Hid (∀ w', Below V.heap.size V w' → Below X.heap.size X w') := hide (fun w' h => hbel.trans (h.mono hVs))
          have hselfV := Below.refl V.heap.size V
          have hhl := hHas.out.len
          have p3V : ∀ w', Below V.heap.size V w' → w'.cell? ⟨w.heap.size, 3, none⟩ = some (.slice A2 n k2) := fun w' h => p3 w' (hbel.trans (h.mono hVs))
          clear hmk hHas p3 hbel
          go_wp2
          go_loopg [146] n (fun g s wr => ∃ k : Nat, s = .int .i64 k ∧ Hid (g + k = n) ∧ Below V.heap.size V wr)
          case atStart => exact ⟨0, rfl, hide rfl, hselfV⟩
          case round =>
            clear hselfV
            rename World => V1
            obtain ⟨k, rfl, hg2, hbel⟩ := hrel
            have hk : k ≤ n := by have := hg2.out; omega
            by_cases hlt : k < n
            · have hki : (k : Int) < (n : Int) := by omega
              obtain ⟨g', hg'⟩ : ∃ g', Hid (g' + (k + 1) = n) := ⟨n - (k + 1), hide (by omega)⟩
              have hgg : Hid (g' < gk) := hide (by have := hg'.out; have := hg2.out; omega)
              have hbX1 := hXV.out V1 hbel
              have rr := hrd.out k hlt V1 hbX1
              obtain ⟨hb, hhb⟩ := get_ex (l := has) (k := k) (by rw [hhl]; exact hlt)
              have rh := hhd.out k hb hhb.out V1 hbel
              by_cases hko : (k : Int) ∈ O
              · have hbH := hfinal.out k hlt hko
                rw [hhb.out] at hbH
                have hbH : Hid (hb = phF f k) := hide (Option.some.inj hbH)
                rw [decide_eq_true hko] at rr
                replace hko := hide hko
                cases hb with
                | true =>
                  go_wp2
                  go_roundg g'
                  case measure => exact hgg.out
                  case rel => exact ⟨k + 1, by go_num, hg', hbel⟩
                | false =>
                  obtain ⟨onv, ho1, ho2, ho3, ho4⟩ : ∃ onv : Int, 0 ≤ onv ∧ (∀ q : Nat, q < n → (q : Int) ∈ O → (k : Int) ∈ sc q → E[q]? = some onv) ∧
                      (k ≠ 0 → ∀ (i : Nat) x, L[i]? = some x → x.block = k → x.kind = 1 ∨ x.kind = 2 → (∀ (j : Nat) c, j < i → L[j]? = some c → ¬ (c.block = k ∧ (c.kind = 1 ∨ c.kind = 2))) → x.defs = [onv]) ∧ (k ≠ 0 → ∃ q : Nat, q < n ∧ (q : Int) ∈ O ∧ (k : Int) ∈ sc q) := by
                    by_cases h0 : k = 0
                    · subst h0
                      exact ⟨0, Int.le_refl _, fun q _ hqo hqs => (hzero.out hbH.out.symm q hqo hqs).elim, fun h => absurd rfl h, fun h => absurd rfl h⟩
                    · obtain ⟨onv, h1, h2, h3, h4⟩ := hfst.out k hlt hko.out h0 hbH.out.symm
                      exact ⟨onv, h1, h2, fun _ => h3, fun _ => h4⟩
                  replace ho2 := hide ho2
                  replace ho3 := hide ho3
                  replace ho4 := hide ho4
                  obtain ⟨p, hp⟩ := get_ex (l := P) (k := k) (by omega)
                  obtain ⟨hpl, hpm⟩ := hPm.out k p hp.out
                  have hpi := hide (hPin.out k p hp.out)
                  obtain ⟨Ap, Cp, ht1, ht2⟩ := hpr.out k p hp.out
                  have ht1' := ht1 V1 hbX1
                  replace hpm := hide hpm
                  replace ht2 := hide ht2
                  replace ht1 := hide ht1
                  obtain ⟨go, hgo⟩ : ∃ go : Nat, Hid (0 < i → Aa = some ⟨go, 0, none⟩) := by
                    by_cases h0 : 0 < i
                    · obtain ⟨g, cap, hv, -, -⟩ := hAX.out.row.form (by rw [← hN.out]; exact h0)
                      simp only [Value.slice.injEq] at hv
                      exact ⟨g, hide fun _ => hv.1⟩
                    · exact ⟨0, hide fun h => absurd h h0⟩
                  go_wp2
                  go_loopg [15, 165] p.length (fun g s15 s wr => ∃ (j : Nat) (on : Int), s15 = .int .i64 on ∧ s = .int .i64 j ∧ Hid (g + j = p.length) ∧ Hid ((on = -1 ∧ ∀ (j' : Nat) q, j' < j → p[j']? = some q → q ∉ O) ∨ on = onv) ∧ Below V.heap.size V wr)
                  case atStart => exact ⟨0, -1, rfl, rfl, hide rfl, hide (.inl ⟨rfl, fun j' q h => by omega⟩), hbel⟩
                  case round =>
                    obtain ⟨gk0, hgk0⟩ : ∃ gk0, Hid (gk0 = gk) := ⟨_, hide rfl⟩
                    clear hbel ht1' hbX1 rr rh
                    rename World => V2
                    obtain ⟨j, on, rfl, rfl, hgj, hon, hbel⟩ := hrel
                    have hj : j ≤ p.length := by have := hgj.out; omega
                    have hbX2 := hXV.out V2 hbel
                    by_cases hltj : j < p.length
                    · have hjj : (j : Int) < (p.length : Int) := by omega
                      obtain ⟨g3, hg3⟩ : ∃ g3, Hid (g3 + (j + 1) = p.length) := ⟨p.length - (j + 1), hide (by omega)⟩
                      have hgg3 : Hid (g3 < gk) := hide (by have := hg3.out; have := hgj.out; omega)
                      obtain ⟨px, hpx⟩ := get_ex (l := p) (k := j) hltj
                      obtain ⟨hp0, hp1, hp2⟩ := hpm.out px (List.mem_of_getElem? hpx.out)
                      obtain ⟨q0, rfl⟩ := Int.eq_ofNat_of_zero_le hp0
                      have hq0n : q0 < n := by omega
                      have hq0i : (q0 : Int) < (n : Int) := hp1
                      obtain ⟨g5, hg5, rx⟩ := ht2.out (by omega)
                      subst hg5
                      have rx0 := rx j _ hpx.out V2 hbX2
                      clear rx
                      have rq := hrd.out q0 hq0n V2 hbX2
                      by_cases hqo : (q0 : Int) ∈ O
                      · rw [decide_eq_true hqo] at rq
                        have hEq := ho2.out q0 hq0n hqo hp2
                        have re := hed.out q0 onv hEq V2 hbX2
                        replace hqo := hide hqo
                        replace hEq := hide hEq
                        rcases hon.out with ⟨h1, h2⟩ | h1
                        · subst h1
                          have hneg : ¬ ((-1 : Int) ≥ 0) := by omega
                          replace h2 := hide h2
                          go_wp2
                          go_roundg g3
                          case measure => exact hgg3.out
                          case rel => exact ⟨j + 1, onv, rfl, by go_num, hg3, hide (.inr rfl), hbel⟩
                        · subst h1
                          have hge : on ≥ 0 := ho1
                          have hne : (on != on) = false := by simp
                          go_wp2
                          go_roundg g3
                          case measure => exact hgg3.out
                          case rel => exact ⟨j + 1, on, rfl, by go_num, hg3, hide (.inr rfl), hbel⟩
                      · rw [decide_eq_false hqo] at rq
                        have hon2 : Hid ((on = -1 ∧ ∀ (j' : Nat) q, j' < j + 1 → p[j']? = some q → q ∉ O) ∨ on = onv) := hide (by
                          rcases hon.out with ⟨h1, h2⟩ | h1
                          · refine .inl ⟨h1, fun j' q hj' hq => ?_⟩
                            rcases Nat.lt_succ_iff_lt_or_eq.1 hj' with h3 | h3
                            · exact h2 j' q h3 hq
                            · subst h3
                              rw [hpx.out] at hq
                              cases hq
                              exact hqo
                          · exact .inr h1)
                        replace hqo := hide hqo
                        go_wp2
                        go_roundg g3
                        case measure => exact hgg3.out
                        case rel => exact ⟨j + 1, on, rfl, by go_num, hg3, hon2, hbel⟩
                    · obtain rfl : j = p.length := by omega
                      have honv : Hid (k ≠ 0 → on = onv) := hide (fun h0 => by
                        rcases hon.out with ⟨h1, h2⟩ | h1
                        · exfalso
                          obtain ⟨q, hq1, hq2, hq3⟩ := ho4.out h0
                          have hm := hpi.out q (by omega) (by omega) hq3
                          obtain ⟨j', hj'⟩ := List.mem_iff_getElem?.1 hm
                          exact h2 j' q (List.getElem?_eq_some_iff.1 hj').1 hj' hq2
                        · exact h1)
                      have hno0 : Hid (∀ (j : Nat) c, j < 0 → L[j]? = some c → ¬ (c.block = k ∧ (c.kind = 1 ∨ c.kind = 2))) := hide (fun j c h => by omega)
                      clear hon
                      go_wp2
                      go_loopg [190] i (fun g s wr => ∃ j : Nat, s = .int .i64 j ∧ Hid (g + j = i) ∧ Hid (∀ (j' : Nat) c, j' < j → L[j']? = some c → ¬ (c.block = k ∧ (c.kind = 1 ∨ c.kind = 2))) ∧ Below V.heap.size V wr)
                      case atStart => exact ⟨0, rfl, hide rfl, hno0, hbel⟩
                      case round =>
                        clear hbel hno0 hbX2
                        rename World => V3
                        obtain ⟨j, rfl, hgj3, hno, hbel⟩ := hrel
                        have hj3 : j ≤ i := by have := hgj3.out; omega
                        have hV3s := hbel.size
                        by_cases hltj : j < i
                        · have hjj : (j : Int) < (i : Int) := by omega
                          obtain ⟨g4, hg4⟩ : ∃ g4, Hid (g4 + (j + 1) = i) := ⟨i - (j + 1), hide (by omega)⟩
                          have hgg4 : Hid (g4 < gk) := hide (by have := hg4.out; have := hgj3.out; omega)
                          have hAg := hgo.out (by omega)
                          subst hAg
                          obtain ⟨a, ha⟩ := get_ex (l := L) (k := j) (by rw [← hN.out]; exact hltj)
                          have hA3 := hAX.out.below (hXV.out V3 hbel)
                          obtain ⟨⟨ed, ef⟩, he⟩ := hA3.at_ ha.out
                          obtain ⟨w0, w1, w2, w3, w4⟩ := hA3.cells ha.out he
                          obtain ⟨hdI, hfI⟩ := hA3.inn j _ _ ha.out he
                          obtain ⟨Ad, Cd, hd⟩ := row_form hdI.row
                          obtain ⟨Af, Cf, hff⟩ := row_form hfI.row
                          have hd : ed = _ := hd
                          have hff : ef = _ := hff
                          subst hd
                          subst hff
                          obtain ⟨Z, hZ, hwZ, hZs, hzc⟩ := boxes1 V3 #[.int .i64 a.kind, .int .i64 a.block, .int .i64 a.pos, .slice Ad a.defs.length Cd, .slice Af a.orig.length Cf] 57
                          have hbelZ : Below V.heap.size V Z := hbel.trans (hwZ.mono hV3s)
                          have y0 := hzc 0 _ rfl Z (Below.refl _ _)
                          have y1 := hzc 1 _ rfl Z (Below.refl _ _)
                          have y3 := hzc 3 _ rfl Z (Below.refl _ _)
                          obtain ⟨A9, C9, e9, rd⟩ := int_reads (hdI.below hwZ)
                          cases e9
                          replace rd := hide rd
                          replace hA3 := hide hA3
                          replace he := hide he
                          replace hdI := hide hdI
                          replace hfI := hide hfI
                          replace hwZ := hide hwZ
                          replace hZs := hide hZs
                          replace hZ := hide hZ
                          clear hzc hbel hV3s
                          go_upto_region 47 with (fail)
                          rw [hZ.out]
                          clear hZ w0 w1 w2 w3 w4
                          obtain ⟨tb, htb⟩ : ∃ tb, Hid (tb = decide (a.block = k ∧ (a.kind = 1 ∨ a.kind = 2))) := ⟨_, hide rfl⟩
                          go_cut [207] (fun s wx => s = .bool tb ∧ wx = Z)
                          case first =>
                            by_cases hbk : a.block = k
                            · have b1 : (a.block == (k : Int)) = true := by rw [hbk]; simp
                              by_cases hk1 : a.kind = 1
                              · have b2 : (a.kind == 1) = true := by rw [hk1]; rfl
                                have htb2 : Hid (tb = true) := hide (by rw [htb.out]; simp [hbk, hk1])
                                replace hbk := hide hbk
                                replace hk1 := hide hk1
                                go_wp2
                                go_meet
                                exact ⟨by rw [htb2.out], rfl⟩
                              · have b2 : (a.kind == 1) = false := by rw [beq_eq_false_iff_ne]; exact hk1
                                have htb2 : Hid (tb = (a.kind == 2)) := hide (by rw [htb.out, Bool.eq_iff_iff]; simp [hbk, hk1])
                                replace hbk := hide hbk
                                replace hk1 := hide hk1
                                go_wp2
                                go_meet
                                exact ⟨by rw [htb2.out], rfl⟩
                            · have b1 : (a.block == (k : Int)) = false := by rw [beq_eq_false_iff_ne]; exact hbk
                              have htb2 : Hid (tb = false) := hide (by rw [htb.out]; simp [hbk])
                              replace hbk := hide hbk
                              go_wp2
                              go_meet
                              exact ⟨by rw [htb2.out], rfl⟩
                          case rest =>
                            obtain ⟨rfl, hw8⟩ := hcut
                            subst hw8
                            cases htb9 : tb with
                            | false =>
                              have hno2 : Hid (∀ (j' : Nat) c, j' < j + 1 → L[j']? = some c → ¬ (c.block = k ∧ (c.kind = 1 ∨ c.kind = 2))) := hide (fun j' c hj' hc => by
                                rcases Nat.lt_succ_iff_lt_or_eq.1 hj' with h3 | h3
                                · exact hno.out j' c h3 hc
                                · subst h3
                                  rw [ha.out] at hc
                                  cases hc
                                  have h := htb.out
                                  rw [htb9] at h
                                  exact of_decide_eq_false h.symm)
                              replace htb9 := hide htb9
                              go_wp2
                              go_roundg g4
                              case measure => exact hgg4.out
                              case rel => exact ⟨j + 1, by go_num, hg4, hno2, hbelZ⟩
                            | true =>
                              have hab : a.block = k ∧ (a.kind = 1 ∨ a.kind = 2) := by
                                have h := htb.out
                                rw [htb9] at h
                                exact of_decide_eq_true h.symm
                              replace htb9 := hide htb9
                              by_cases h0 : k = 0
                              · have n0 : ¬ ((k : Int) > 0) := by omega
                                replace h0 := hide h0
                                replace hab := hide hab
                                go_wp2
                                go_roundg g'
                                case measure => have h1 := hgg.out; have h2 := hgk0.out; omega
                                case rel => exact ⟨k + 1, by go_num, hg', hbelZ⟩
                              · have hd1 := ho3.out h0 j a ha.out hab.1 hab.2 hno.out
                                have e1 : a.defs.length = 1 := by rw [hd1]; rfl
                                have eon := honv.out h0
                                subst eon
                                rw [e1] at y3
                                obtain ⟨g6, hg6, r6⟩ := rd.out (by omega)
                                subst hg6
                                have v6 := r6 0 on (by rw [hd1]; rfl) _ (Below.refl _ _)
                                have n0 : (k : Int) > 0 := by omega
                                have n1 : (on != on) = false := by simp
                                replace hd1 := hide hd1
                                replace hab := hide hab
                                replace h0 := hide h0
                                clear r6
                                go_wp2
                                go_roundg g'
                                case measure => have h1 := hgg.out; have h2 := hgk0.out; omega
                                case rel => exact ⟨k + 1, by go_num, hg', hbelZ⟩
                        · obtain rfl : j = i := by omega
                          have hbel9 := hide hbel
                          go_wp2
                          go_roundg g'
                          case measure => have h1 := hgg.out; have h2 := hgk0.out; omega
                          case rel => exact ⟨k + 1, by go_num, hg', hbel9.out⟩
              · rw [decide_eq_false hko] at rr
                replace hko := hide hko
                go_wp2
                go_roundg g'
                case measure => exact hgg.out
                case rel => exact ⟨k + 1, by go_num, hg', hbel⟩
            · obtain rfl : k = n := by omega
              have hfin := hide (hbO.out V1 (hXV.out V1 hbel))
              go_wp2
              go_ret
              exact ⟨rfl, hfin.out⟩
end Go.Proofs.Ytidjaohlaljmpaa
