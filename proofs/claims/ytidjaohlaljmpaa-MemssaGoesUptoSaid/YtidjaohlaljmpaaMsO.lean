/- MemssaCounts: there are as many accesses as reachable Stores, Calls and Loads, phis and the entry, in the order of blocks. Condition: the function's bulk is bounded. -/
import Derived.Test.YtidjaohlaljmpaaMsN
namespace Go.Proofs.Ytidjaohlaljmpaa
open Go.RowKit
set_option linter.unusedSimpArgs false
set_option linter.unusedVariables false

def kcA (l : List Ac) : Nat := (l.filter fun a => a.kind == 1 || a.kind == 2).length
theorem kcA_app (l r : List Ac) : kcA (l ++ r) = kcA l + kcA r := by unfold kcA; rw [List.filter_append, List.length_append]
theorem kcA_take {l : List Ac} {i : Nat} {a : Ac} (h : l[i]? = some a) : kcA (l.take (i + 1)) = kcA (l.take i) + (if a.kind = 1 ∨ a.kind = 2 then 1 else 0) := by
  rw [List.take_add_one, h, kcA_app]
  congr 1
  unfold kcA
  by_cases h1 : a.kind = 1 ∨ a.kind = 2
  · rw [if_pos h1]
    have : (a.kind == 1 || a.kind == 2) = true := by simpa using h1
    simp [this]
  · rw [if_neg h1]
    have : (a.kind == 1 || a.kind == 2) = false := by simpa using h1
    simp [this]
theorem kcA_len (l : List Ac) : kcA l ≤ l.length := List.length_filter_le ..
def cntA (bs : List (List Ins)) (O : List Int) : Nat → Nat
  | 0 => 0
  | k + 1 => cntA bs O k + (if (k : Int) ∈ O then (codeA k (bs.getD k []) (bs.getD k []).length).length else 0)
theorem cntA_in {bs : List (List Ins)} {O : List Int} {k : Nat} {x : List Ins} (hx : bs[k]? = some x) (h : (k : Int) ∈ O) : cntA bs O (k + 1) = cntA bs O k + (codeA k x x.length).length := by
  rw [cntA, if_pos h, List.getD_eq_getElem?_getD, hx]; rfl
theorem cntA_out {bs : List (List Ins)} {O : List Int} {k : Nat} (h : ¬ (k : Int) ∈ O) : cntA bs O (k + 1) = cntA bs O k := by
  rw [cntA, if_neg h]; rfl
theorem kcA_code {b : Nat} {x : List Ins} : ∀ i, kcA (codeA b x i) = (codeA b x i).length := fun i => by
  unfold kcA
  congr 1
  rw [List.filter_eq_self]
  intro a ha
  obtain ⟨j, k, -, h, rfl⟩ := codeA_mem i ha
  rcases h with rfl | rfl <;> rfl
theorem kcA_laid {bs : List (List Ins)} {H : Nat → Bool} {O : List Int} : ∀ k, kcA (laidA bs H O k) = cntA bs O k
  | 0 => rfl
  | k + 1 => by
    show kcA (laidA bs H O k ++ blkA bs H O k) = _
    rw [kcA_app, kcA_laid k, cntA]
    congr 1
    unfold blkA
    split
    · rw [kcA_app, kcA_code]
      have : kcA (phiA H k) = 0 := by unfold phiA; split <;> rfl
      rw [this, Nat.zero_add]
    · rfl
theorem accI_one {b i : Nat} {x : Ins} (h : x.op = 27 ∨ x.op = 28 ∨ x.op = 30) : (accI b i x).length = 1 := by
  unfold accI chgB
  rcases h with h | h | h <;> rw [h] <;> rfl
theorem accI_zero {b i : Nat} {x : Ins} (h1 : ¬ x.op = 27) (h2 : ¬ x.op = 28) (h3 : ¬ x.op = 30) : (accI b i x).length = 0 := by
  unfold accI chgB
  rw [if_neg (by simp [h2, h3]), if_neg h1]; rfl
theorem cntA_le {bs : List (List Ins)} {H : Nat → Bool} {O : List Int} (k : Nat) : cntA bs O k ≤ (laidA bs H O k).length := by rw [← kcA_laid (H := H)]; exact kcA_len _
theorem accD_kind {L : List Ac} {l o : List Int} {P : List (List Int)} {i : Nat} {a : Ac} : (accD L l o P i a).kind = a.kind ∧ (accD L l o P i a).block = a.block ∧ (accD L l o P i a).pos = a.pos := by
  unfold accD
  split
  · exact ⟨rfl, rfl, rfl⟩
  · split <;> exact ⟨rfl, rfl, rfl⟩
theorem built_len {L : List Ac} {l o : List Int} {P : List (List Int)} : (builtA L l o P).length = L.length := by unfold builtA; simp
theorem kcA_built {L : List Ac} {l o : List Int} {P : List (List Int)} : kcA (builtA L l o P) = kcA L := by
  have key : ∀ m, m ≤ L.length → kcA ((builtA L l o P).take m) = kcA (L.take m) := by
    intro m
    induction m with
    | zero => intro _; rfl
    | succ m ih =>
      intro hm
      have h1 := List.getElem?_eq_getElem (show m < L.length by omega)
      rw [kcA_take h1, kcA_take (built_at h1), ih (by omega), accD_kind.1]
  have := key L.length (Nat.le_refl _)
  rwa [List.take_length, List.take_of_length_le (by rw [built_len]; omega)] at this
/-- what the law asks of the list -/
structure CntOk (bs : List (List Ins)) (O : List Int) (n : Nat) (L : List Ac) : Prop where
  pos : 0 < L.length ↔ 0 < n
  len : L.length ≤ 4000001
  kc : kcA L = cntA bs O n
  first : ∀ a, L[0]? = some a → a.kind = 0 ∧ a.pos = -1
  kind : ∀ (i : Nat) a, L[i]? = some a → 0 < i → a.kind ≠ 0
  lt : ∀ (i : Nat) a c, L[i]? = some c → L[i + 1]? = some a → 0 < i → AccLt c a
theorem cnt_ok {f : Fun} {H : Nat → Bool} {O l : List Int} {P : List (List Int)} (hsz : funSz f ≤ 2000000) :
    CntOk f.blocks O f.blocks.length (if f.blocks.length = 0 then [] else builtA (laidA f.blocks H O f.blocks.length) l O P) := by
  by_cases h0 : f.blocks.length = 0
  · rw [if_pos h0]
    refine ⟨by simp [h0], by simp, by rw [h0]; rfl, fun a h => by simp at h, fun i a h => by simp at h, fun i a c h => by simp at h⟩
  · rw [if_neg h0]
    have hat : ∀ {i : Nat} {a : Ac}, (builtA (laidA f.blocks H O f.blocks.length) l O P)[i]? = some a → ∃ a0, (laidA f.blocks H O f.blocks.length)[i]? = some a0 ∧ a.kind = a0.kind ∧ a.block = a0.block ∧ a.pos = a0.pos := fun {i a} h => by
      have hi := (List.getElem?_eq_some_iff.1 h).1
      rw [built_len] at hi
      have h1 := List.getElem?_eq_getElem hi
      rw [built_at h1] at h
      cases h
      exact ⟨_, h1, accD_kind.1, accD_kind.2.1, accD_kind.2.2⟩
    refine ⟨by rw [built_len]; have := laidA_pos (bs := f.blocks) (H := H) (o := O) f.blocks.length; omega, by rw [built_len]; exact laidA_small hsz (Nat.le_refl _), by rw [kcA_built, kcA_laid], fun a h => ?_, fun i a h hi => ?_, fun i a c hc ha hi => ?_⟩
    · obtain ⟨a0, h1, h2, -, h3⟩ := hat h
      rw [laidA_zero] at h1
      cases h1
      exact ⟨h2, h3⟩
    · obtain ⟨a0, h1, h2, -, -⟩ := hat h
      obtain ⟨b, -, h4, -⟩ := laidA_mem _ h1 hi
      rw [h2]
      rcases (blkA_mem h4).2 with ⟨-, rfl⟩ | ⟨j, k, -, h5, rfl⟩
      · show (3 : Int) ≠ 0; omega
      · show k ≠ 0; omega
    · obtain ⟨a0, h1, -, h2, h3⟩ := hat ha
      obtain ⟨c0, h4, -, h5, h6⟩ := hat hc
      have := laidA_lt h4 h1 hi (Nat.lt_succ_self _)
      unfold AccLt at *
      omega
set_option maxRecDepth 100000 in
set_option maxHeartbeats 12800000 in
theorem law_memssa_counts (f : Fun) (c1 c2 : Value) (w : World) (hf : RFun.rep w w.heap.size [.string f.name, c1, .int .i64 f.ret, c2] f) (hs : Small f) (hsz : funSz f ≤ 2000000) :
    Calls Try.prog 10 #[f.v c1 c2] w (LawPost w) := by
  obtain ⟨hp, hb⟩ := fun_open (RFun.later hf (Below.refl _ _) (Nat.le_refl _))
  obtain ⟨A1, k1, h1, -, -⟩ := Rp.slice1_open hp
  obtain ⟨A2, k2, h2, hm2, -⟩ := Rp.slice1_open hb
  cases h1; cases h2
  clear hp hb
  obtain ⟨-, hb⟩ := fun_open (RFun.later hf (Below.refl _ _) (Nat.le_refl _))
  obtain ⟨A2', k2', h2', -, gb⟩ := Rp.slice1_open hb
  cases h2'
  clear hb
  replace gb := hide gb
  obtain ⟨n, hn⟩ : ∃ n, Hid (n = f.blocks.length) := ⟨_, hide rfl⟩
  have hnle : n ≤ 2000000 := by rw [hn.out]; exact hs.blocks
  obtain ⟨O, hO⟩ : ∃ O, Hid (O = orderF f.blocks) := ⟨_, hide rfl⟩
  obtain ⟨sc, hsc⟩ : ∃ sc, Hid (sc = succsF f.blocks) := ⟨_, hide rfl⟩
  obtain ⟨R, hR⟩ : ∃ R, Hid (R = reachF f.blocks) := ⟨_, hide rfl⟩
  obtain ⟨P, hP⟩ : ∃ P, Hid (P = predsL sc n) := ⟨_, hide rfl⟩
  have hPl : P.length = n := by rw [hP.out, predsL_len]
  have hRl : R.length = n := by rw [hR.out, hn.out, reach_len]
  have hsok : Hid (∀ b, SuccOk n (sc b)) := hide (fun b => by rw [hsc.out, hn.out]; exact succsF_ok _ _)
  have hok : Hid (OrderOk n sc O) := hide (by rw [hO.out, hn.out, hsc.out]; exact order_ok _)
  have hol : O.length ≤ n := by rw [hO.out, hn.out]; exact order_len _
  have hRat : Hid (∀ k : Nat, k < n → R[k]? = some (decide ((k : Int) ∈ O))) := hide (fun k hk => by rw [hR.out, hO.out]; exact reach_at _ _ (by rw [← hn.out]; exact hk))
  rw [← hn.out]
  rw [← hn.out] at hf hm2
  obtain ⟨W, hW, hwW, hWs, hx⟩ := boxes1 w #[.string f.name, .slice A1 f.params.length k1, .int .i64 f.ret, .slice A2 n k2] 25
  have q0 : ∀ w', Below W.heap.size W w' → w'.cell? ⟨w.heap.size, 0, none⟩ = some (.string f.name) := hx 0 _ rfl
  have q1 : ∀ w', Below W.heap.size W w' → w'.cell? ⟨w.heap.size, 1, none⟩ = some (.slice A1 f.params.length k1) := hx 1 _ rfl
  have q2 : ∀ w', Below W.heap.size W w' → w'.cell? ⟨w.heap.size, 2, none⟩ = some (.int .i64 f.ret) := hx 2 _ rfl
  have q3 : ∀ w', Below W.heap.size W w' → w'.cell? ⟨w.heap.size, 3, none⟩ = some (.slice A2 n k2) := hx 3 _ rfl
  clear hx
  have hws : w.heap.size ≤ W.heap.size := by omega
  replace hWs := hide hWs
  have hself := Below.refl W.heap.size W
  have hF : Hid (∀ w', Below W.heap.size W w' → RFun.rep w' w'.heap.size [.string f.name, .slice A1 f.params.length k1, .int .i64 f.ret, .slice A2 n k2] f) := hide (fun w' h => RFun.later hf (hwW.trans (h.mono hws)) (hwW.trans (h.mono hws)).size)
  have cR : Hid (∀ w', Below W.heap.size W w' → Calls Try.prog 24 #[f.v (.slice A1 f.params.length k1) (.slice A2 n k2)] w' (ReachPost n R w')) := hide (fun w' h => by
    have := reach_any f (.slice A1 f.params.length k1) (.slice A2 n k2) w' w'.heap.size (Nat.le_refl _) (hF.out w' h) hs
    rwa [← hn.out, ← hR.out] at this)
  obtain ⟨lb, hlb⟩ : ∃ lb, Hid (lb = long19F f) := ⟨_, hide rfl⟩
  have cL : Hid (∀ w', Below W.heap.size W w' → Calls Try.prog 29 #[f.v (.slice A1 f.params.length k1) (.slice A2 n k2)] w' (RetB lb w')) := hide (fun w' h => by
    have := long19_any f (.slice A1 f.params.length k1) (.slice A2 n k2) w' w'.heap.size (Nat.le_refl _) (hF.out w' h) hsz
    rwa [← hlb.out] at this)
  have cB : Hid (∀ w', Below W.heap.size W w' → Calls Try.prog 30 #[f.v (.slice A1 f.params.length k1) (.slice A2 n k2)] w' (MBuildPost f (phF f) O sc P n w')) := hide (fun w' h => by
    have := mbuild_any f (.slice A1 f.params.length k1) (.slice A2 n k2) w' w'.heap.size (Nat.le_refl _) (hF.out w' h) hsz
    rwa [← hO.out, ← hsc.out, ← hn.out, ← hP.out] at this)
  have hzb : Hid (∀ x, x ∈ f.blocks → x.length ≤ 2000000) := hide (fun x hx => (hs.code x hx).1)
  replace hs := hide hs
  replace hf := hide hf
  replace hwW := hide hwW
  replace hW := hide hW
  go_enter Try.func10, Try.ntmps10
  go_upto_region 1 with (fail)
  rw [hW.out]
  go_wp2_with (fail)
  refine (lives19_any _).mono ?_
  rintro e w1 ⟨rfl, hb1⟩
  go_wp2_with (fail)
  refine (cL.out _ hb1).mono ?_
  rintro e w2 ⟨rfl, hb2⟩
  have hbel2 := hb1.trans (hb2.mono hb1.size)
  clear hb1 hb2 cL
  cases lb with
  | true =>
    go_wp2
    go_ret
    exact ⟨rfl, hwW.out.trans (hbel2.mono hws)⟩
  | false =>
    have hs2 := hbel2.size
    have z0 : ∀ w', Below w2.heap.size w2 w' → w'.cell? ⟨w.heap.size, 0, none⟩ = some (.string f.name) := fun w' h => q0 w' (hbel2.trans (h.mono hs2))
    have z1 : ∀ w', Below w2.heap.size w2 w' → w'.cell? ⟨w.heap.size, 1, none⟩ = some (.slice A1 f.params.length k1) := fun w' h => q1 w' (hbel2.trans (h.mono hs2))
    have z2 : ∀ w', Below w2.heap.size w2 w' → w'.cell? ⟨w.heap.size, 2, none⟩ = some (.int .i64 f.ret) := fun w' h => q2 w' (hbel2.trans (h.mono hs2))
    have z3 : ∀ w', Below w2.heap.size w2 w' → w'.cell? ⟨w.heap.size, 3, none⟩ = some (.slice A2 n k2) := fun w' h => q3 w' (hbel2.trans (h.mono hs2))
    have hW2 : Hid (∀ w', Below w2.heap.size w2 w' → Below W.heap.size W w') := hide (fun w' h => hbel2.trans (h.mono hs2))
    have hself2 := Below.refl w2.heap.size w2
    clear q0 q1 q2 q3 hself
    go_upto_region 5 with (fail)
    go_region_held3 (fun w' => Below w2.heap.size w2 w') (first | (with_reducible assumption) | exact hself2.drew)
      (first
        | (go_at_call 24; refine (cR.out _ (hW2.out _ hk1)).mono ?_; rintro e X ⟨gr, rfl, hrr, hb4⟩; have hkX : Below w2.heap.size w2 X := hk1.trans (hb4.mono hk1.size))
        | (go_at_call 30; refine (cB.out _ (hW2.out _ hself2.drew)).mono ?_; rintro e w3 ⟨v, l, es, rfl, hI, hA, hb3⟩; obtain ⟨L, hL⟩ : ∃ L, Hid (L = if n = 0 then [] else builtA (laidA f.blocks (phF f) O n) l O P) := ⟨_, hide rfl⟩; rw [← hL.out] at hA; obtain ⟨N, hN⟩ : ∃ N, Hid (N = L.length) := ⟨_, hide rfl⟩; obtain ⟨Aa, Ca, rfl⟩ := row_form hA.row; rw [← hN.out] at hA ⊢; have hk1 : Below w2.heap.size w2 w3 := hself2.drew.trans (hb3.mono (Nat.le_refl _)); replace hA := hide hA; replace hI := hide hI; clear hb3))
    have hbX := hbel2.trans (hkX.mono hs2)
    have hsX := hbX.size
    have hA' := hA.out
    have hok2 : Hid (CntOk f.blocks O n L) := hide (by rw [hL.out, hn.out]; exact cnt_ok hsz)
    have hNle : N ≤ 4000001 := by rw [hN.out]; exact hok2.out.len
    have hAX := hide (hA'.below hb4)
    have hrd : Hid (∀ k : Nat, k < n → ∀ w', Below X.heap.size X w' → w'.cell? ⟨gr, k, none⟩ = some (.bool (decide ((k : Int) ∈ O)))) := hide (fun k hk w' h => OwnB.cell (row_kept hrr fun q hq => h.block q (row_lt hrr hq).2.1) (hRat.out k hk) hk)
    have hbO : Hid (∀ w', Below X.heap.size X w' → Below w.heap.size w w') := hide (fun w' h => hwW.out.trans ((hbX.trans (h.mono hsX)).mono hws))
    have p3 : ∀ w', Below X.heap.size X w' → w'.cell? ⟨w.heap.size, 3, none⟩ = some (.slice A2 n k2) := fun w' h => z3 w' (hkX.trans (h.mono hkX.size))
    have hselfX := Below.refl X.heap.size X
    have hpn : Hid (0 < N ↔ 0 < n) := hide (by rw [hN.out]; exact hok2.out.pos)
    have hcle : Hid (∀ k, k ≤ n → cntA f.blocks O k ≤ 4000001) := hide (fun k hk => Nat.le_trans (cntA_le (H := phF f) k) (laidA_small hsz (by rw [← hn.out]; exact hk)))
    replace hsz := hide hsz
    clear hA hA' hb4 hbel2 hrr z0 z1 z2 z3 hself2 cB cR hF hI hk1 hkX hs2
    have hcond : Hid (((N : Int) > 0 ∧ (n : Int) > 0) ∨ (¬ (N : Int) > 0 ∧ ¬ (n : Int) > 0)) := hide (by have := hpn.out; omega)
    have h00 : Hid ((cntA f.blocks O 0 : Nat) = 0) := hide rfl
    go_upto_region 6 with (fail)
    go_cut [35] (fun s wx => s = .bool false ∧ wx = X)
    case first =>
      go_wp2
      go_meet
      exact ⟨by rw [show decide (0 < N) = decide (0 < n) from by rw [decide_eq_decide]; exact hpn.out]; simp, rfl⟩
    case rest =>
      obtain ⟨rfl, hw9⟩ := hcut
      subst hw9
      obtain ⟨T, hT⟩ : ∃ T, Hid (T = cntA f.blocks O n) := ⟨_, hide rfl⟩
      clear hcond
      go_wp2
      go_loopw [5, 39] (fun s5 s wr => ∃ k : Nat, s5 = .int .i64 (cntA f.blocks O k : Int) ∧ s = .int .i64 k ∧ k ≤ n ∧ Below wc.heap.size wc wr) (fun _ s _ => n - (intOf s).toNat)
      case atStart => exact ⟨0, by rw [h00.out]; rfl, rfl, Nat.zero_le _, hselfX⟩
      case round =>
        rename World => V0
        obtain ⟨k, rfl, rfl, hk, hbel⟩ := hrel
        have hVs := hbel.size
        have hck := hcle.out k hk
        by_cases hlt : k < n
        · have hki : (k : Int) < (n : Int) := by omega
          have rr := hrd.out k hlt
          obtain ⟨x, hx⟩ := get_ex (l := f.blocks) (k := k) (by rw [← hn.out]; exact hlt)
          have hxl : x.length ≤ 2000000 := hzb.out x (List.mem_of_getElem? hx.out)
          obtain ⟨b1, o1, rfl, he1⟩ := gb.out (by rw [← hn.out]; omega)
          obtain ⟨d1, hr1, hd1⟩ := he1 k x hx.out
          obtain ⟨A3, c3, h3, hm3', ga3⟩ := Rp.slice_open hr1
          cases h3
          replace ga3 := hide ga3
          have hd1' := hd1 V0 (hbO.out V0 hbel)
          have hbel2 : Below wc.heap.size wc (V0.alloc (.cells #[.slice A3 x.length c3] 64)) := hbel.alloc hVs _
          clear hd1 hr1 he1
          obtain ⟨rb, hrb⟩ : ∃ rb, Hid (decide ((k : Int) ∈ O) = rb) := ⟨_, hide rfl⟩
          rw [hrb.out] at rr
          have hin : Hid (cntA f.blocks O k = cntA f.blocks O k + (if rb = true then (codeA k x 0).length else 0)) := hide (by split <;> rfl)
          have hout : Hid (cntA f.blocks O k + (if rb = true then (codeA k x x.length).length else 0) = cntA f.blocks O (k + 1)) := hide (by
            cases hrb9 : rb with
            | true =>
              have h := hrb.out
              rw [hrb9, decide_eq_true_eq] at h
              rw [cntA_in hx.out h, if_pos rfl]
            | false =>
              have h := hrb.out
              rw [hrb9, decide_eq_false_iff_not] at h
              rw [cntA_out h, if_neg (by simp)]; rfl)
          go_wp2
          go_loopw [5, 47] (fun s5 s wr => ∃ i : Nat, s5 = .int .i64 ((cntA f.blocks O k + (if rb = true then (codeA k x i).length else 0) : Nat) : Int) ∧ s = .int .i64 i ∧ i ≤ x.length ∧ Below wc.heap.size wc wr) (fun _ s _ => x.length - (intOf s).toNat)
          case atStart => exact ⟨0, by rw [← hin.out], rfl, Nat.zero_le _, hbel2⟩
          case round =>
            clear hbel2 hd1' hbel hVs
            rename World => V
            obtain ⟨i, rfl, rfl, hi, hbel⟩ := hrel
            have hVs := hbel.size
            by_cases hlti : i < x.length
            · have hii : (i : Int) < (x.length : Int) := by omega
              obtain ⟨b3, o3, rfl, he3⟩ := ga3.out (by omega)
              obtain ⟨ins, hins⟩ := get_ex (l := x) (k := i) hlti
              obtain ⟨_, _, ⟨a1, a2, rfl, ha, hto, -, hokr, -⟩, hc⟩ := he3 i ins hins.out
              obtain ⟨A5, k5, h5, hm5, -⟩ := Rp.slice_open ha
              obtain ⟨A6, k6, h6, hm6, -⟩ := Rp.slice1_open hto
              cases h5; cases h6
              have hbV := hbO.out V hbel
              obtain ⟨e0, e1, e2, e3, e4, e5, e6⟩ := hc.seven
              have e0 := e0 V hbV
              have e1 := e1 V hbV
              have e2 := e2 V hbV
              have e3 := e3 V hbV
              have e4 := e4 V hbV
              have e5 := e5 V hbV
              have e6 := e6 V hbV
              clear he3 ha hto hc hokr
              obtain ⟨Z, hZ, hwZ, hZs, hzc⟩ := boxes1 V #[.int .i64 ins.op, .int .i64 ins.reg, .int .i64 ins.ty, .int .i64 ins.num, .int .i64 ins.flags, .slice A5 ins.args.length k5, .slice A6 ins.to.length k6] 67
              have hbelZ : Below wc.heap.size wc Z := hbel.trans (hwZ.mono hVs)
              have y0 := hzc 0 _ rfl Z (Below.refl _ _)
              have rk0 := rr Z hbelZ
              have hst := codeA_step (b := k) hins.out
              have hcl := codeA_len (b := k) (x := x) i
              obtain ⟨cc, hcc⟩ : ∃ cc, Hid ((codeA k x i).length = cc) := ⟨_, hide rfl⟩
              have hst : Hid ((codeA k x (i + 1)).length = cc + (accI k i ins).length) := hide (by rw [hst, List.length_append, hcc.out])
              rw [hcc.out] at hcl ⊢
              replace hwZ := hide hwZ
              replace hZs := hide hZs
              replace hZ := hide hZ
              clear hzc hbel
              go_upto_region 15 with (fail)
              rw [hZ.out]
              clear hZ e0 e1 e2 e3 e4 e5 e6
              cases rb with
              | false =>
                go_wp2
                go_roundw
                case rel => exact ⟨i + 1, rfl, by go_num, hlti, hbelZ⟩
                case measure => simp [intOf]; omega
              | true =>
                have hii2 : ((if true = true then cc else 0) : Nat) = cc := if_pos rfl
                by_cases h27 : ins.op = 27
                · have g1 : (ins.op == 27) = true := by rw [h27]; rfl
                  have ho := hide (accI_one (b := k) (i := i) (.inl h27))
                  replace h27 := hide h27
                  go_wp2
                  go_roundw
                  case rel => exact ⟨i + 1, by rw [hst.out, ho.out] <;> (first | rfl | (congr 1; omega) | congr 1), by go_num, hlti, hbelZ⟩
                  case measure => simp [intOf]; omega
                · have g1 : (ins.op == 27) = false := by rw [beq_eq_false_iff_ne]; exact h27
                  by_cases h28 : ins.op = 28
                  · have g2 : (ins.op == 28) = true := by rw [h28]; rfl
                    have ho := hide (accI_one (b := k) (i := i) (.inr (.inl h28)))
                    replace h27 := hide h27
                    replace h28 := hide h28
                    go_wp2
                    go_roundw
                    case rel => exact ⟨i + 1, by rw [hst.out, ho.out] <;> (first | rfl | (congr 1; omega) | congr 1), by go_num, hlti, hbelZ⟩
                    case measure => simp [intOf]; omega
                  · have g2 : (ins.op == 28) = false := by rw [beq_eq_false_iff_ne]; exact h28
                    by_cases h30 : ins.op = 30
                    · have g3 : (ins.op == 30) = true := by rw [h30]; rfl
                      have ho := hide (accI_one (b := k) (i := i) (.inr (.inr h30)))
                      replace h27 := hide h27
                      replace h28 := hide h28
                      replace h30 := hide h30
                      go_wp2
                      go_roundw
                      case rel => exact ⟨i + 1, by rw [hst.out, ho.out] <;> (first | rfl | (congr 1; omega) | congr 1), by go_num, hlti, hbelZ⟩
                      case measure => simp [intOf]; omega
                    · have g3 : (ins.op == 30) = false := by rw [beq_eq_false_iff_ne]; exact h30
                      have ho := hide (accI_zero (b := k) (i := i) h27 h28 h30)
                      replace h27 := hide h27
                      replace h28 := hide h28
                      replace h30 := hide h30
                      go_wp2
                      go_roundw
                      case rel => exact ⟨i + 1, by rw [hst.out, ho.out] <;> (first | rfl | (congr 1; omega) | congr 1), by go_num, hlti, hbelZ⟩
                      case measure => simp [intOf]; omega
            · obtain rfl : i = x.length := by omega
              rw [hout.out]
              go_wp2
              go_roundw
              case rel => exact ⟨k + 1, rfl, by go_num, hlt, hbel⟩
              case measure => simp [intOf]; omega
        · obtain rfl : k = n := by omega
          rw [← hT.out]
          have hTb : T ≤ 4000001 := by rw [hT.out]; exact hck
          have hbel0 := hbel
          have hst0 : Hid ((T : Int) = (T : Int) - (kcA (L.take 0) : Nat)) := hide (by show (T : Int) = (T : Int) - ((0 : Nat) : Int); omega)
          have hkt : Hid (kcA L = T) := hide (by rw [hok2.out.kc, hT.out])
          clear hbel hselfX
          go_wp2
          go_loopg [5, 76] N (fun g s5 s wr => ∃ i : Nat, s5 = .int .i64 ((T : Int) - (kcA (L.take i) : Nat)) ∧ s = .int .i64 i ∧ Hid (g + i = N) ∧ Below wc.heap.size wc wr)
          case atStart => exact ⟨0, by rw [← hst0.out], rfl, hide rfl, hbel0⟩
          case round =>
            clear hbel0
            rename World => V
            obtain ⟨i, rfl, rfl, hg, hbel⟩ := hrel
            have hi : i ≤ N := by have := hg.out; omega
            have hVs' := hbel.size
            by_cases hlti : i < N
            · have hii : (i : Int) < (N : Int) := by omega
              obtain ⟨g', hg'⟩ : ∃ g', Hid (g' + (i + 1) = N) := ⟨N - (i + 1), hide (by omega)⟩
              have hgg : Hid (g' < gk) := hide (by have := hg'.out; have := hg.out; omega)
              obtain ⟨go, hgo⟩ : ∃ go, Aa = some ⟨go, 0, none⟩ := by
                obtain ⟨g, cap, hv, -, -⟩ := hAX.out.row.form (by rw [← hN.out]; omega)
                simp only [Value.slice.injEq] at hv
                exact ⟨g, hv.1⟩
              subst hgo
              obtain ⟨a, ha⟩ := get_ex (l := L) (k := i) (by rw [← hN.out]; exact hlti)
              have hAV := hAX.out.below hbel
              obtain ⟨⟨ed, ef⟩, he⟩ := hAV.at_ ha.out
              obtain ⟨w0, w1, w2, w3, w4⟩ := hAV.cells ha.out he
              obtain ⟨hdI, hfI⟩ := hAV.inn i _ _ ha.out he
              obtain ⟨Ad, Cd, hd⟩ := row_form hdI.row
              obtain ⟨Af, Cf, hff⟩ := row_form hfI.row
              have hd : ed = _ := hd
              have hff : ef = _ := hff
              subst hd
              subst hff
              obtain ⟨Z, hZ, hwZ, hZs, hzc⟩ := boxes1 V #[.int .i64 a.kind, .int .i64 a.block, .int .i64 a.pos, .slice Ad a.defs.length Cd, .slice Af a.orig.length Cf] 57
              have hbelZ : Below wc.heap.size wc Z := hbel.trans (hwZ.mono hVs')
              have y0 := hzc 0 _ rfl Z (Below.refl _ _)
              have y1 := hzc 1 _ rfl Z (Below.refl _ _)
              have y2 := hzc 2 _ rfl Z (Below.refl _ _)
              have hkc := hide (kcA_take ha.out)
              have hkl : kcA (L.take i) ≤ 4000001 := Nat.le_trans (kcA_len _) (by rw [List.length_take]; omega)
              have hprev : Hid (∀ m : Nat, i = m + 1 → ∃ c, L[m]? = some c ∧ Z.cell? ⟨go, m * 5 + 1, none⟩ = some (.int .i64 c.block) ∧ Z.cell? ⟨go, m * 5 + 2, none⟩ = some (.int .i64 c.pos) ∧ (0 < m → AccLt c a)) := hide (fun m hm => by
                have hAZ := hAX.out.below hbelZ
                obtain ⟨c, hc⟩ := get_ex (l := L) (k := m) (by rw [← hN.out]; omega)
                obtain ⟨e', he'⟩ := hAZ.at_ hc.out
                obtain ⟨-, v1, v2, -⟩ := hAZ.cells hc.out he'
                refine ⟨c, hc.out, v1, v2, fun h0 => hok2.out.lt m a c hc.out (by rw [← hm]; exact ha.out) h0⟩)
              replace hAV := hide hAV
              replace he := hide he
              replace hdI := hide hdI
              replace hfI := hide hfI
              replace hwZ := hide hwZ
              replace hZs := hide hZs
              replace hZ := hide hZ
              clear hzc hbel hVs'
              go_upto_region 22 with (fail)
              rw [hZ.out]
              clear hZ w0 w1 w2 w3 w4
              obtain ⟨kb, hkb⟩ : ∃ kb, Hid (kb = decide (a.kind = 1 ∨ a.kind = 2)) := ⟨_, hide rfl⟩
              go_cut [88] (fun s wx => s = .bool kb ∧ wx = Z)
              case first =>
                by_cases hk1 : a.kind = 1
                · have b1 : (a.kind == 1) = true := by rw [hk1]; rfl
                  have hkb2 : Hid (kb = true) := hide (by rw [hkb.out]; simp [hk1])
                  replace hk1 := hide hk1
                  go_wp2
                  go_meet
                  exact ⟨by rw [hkb2.out], rfl⟩
                · have b1 : (a.kind == 1) = false := by rw [beq_eq_false_iff_ne]; exact hk1
                  have hkb2 : Hid (kb = (a.kind == 2)) := hide (by rw [hkb.out, Bool.eq_iff_iff]; simp [hk1])
                  replace hk1 := hide hk1
                  go_wp2
                  go_meet
                  exact ⟨by rw [hkb2.out], rfl⟩
              case rest =>
                obtain ⟨rfl, hw8⟩ := hcut
                subst hw8
                go_upto_if 88 with (fail)
                obtain ⟨Z2, hZ2⟩ : ∃ Z2 : World, Z2 = wc := ⟨_, rfl⟩
                go_cut [5] (fun s5 wx => s5 = .int .i64 ((T : Int) - (kcA (L.take (i + 1)) : Nat)) ∧ wx = Z2)
                case first =>
                  cases hkb9 : kb with
                  | true =>
                    have hkc2 : Hid (kcA (L.take (i + 1)) = kcA (L.take i) + 1) := hide (by
                      have h := hkb.out
                      rw [hkb9] at h
                      rw [hkc.out, if_pos (of_decide_eq_true h.symm)])
                    replace hkb9 := hide hkb9
                    go_wp2
                    go_meet
                    exact ⟨by rw [hkc2.out]; congr 1; omega, hZ2.symm⟩
                  | false =>
                    have hkc2 : Hid (kcA (L.take (i + 1)) = kcA (L.take i)) := hide (by
                      have h := hkb.out
                      rw [hkb9] at h
                      rw [hkc.out, if_neg (of_decide_eq_false h.symm), Nat.add_zero])
                    replace hkb9 := hide hkb9
                    go_wp2
                    go_meet
                    exact ⟨by rw [hkc2.out], hZ2.symm⟩
                case rest =>
                  obtain ⟨rfl, hw8⟩ := hcut
                  subst hw8
                  rcases Nat.eq_zero_or_pos i with h0 | h0
                  · subst h0
                    obtain ⟨hk0, hp0⟩ := hok2.out.first a ha.out
                    rw [hk0] at y0
                    rw [hp0] at y2
                    have n1 : ¬ ((0 : Nat) : Int) > 1 := by omega
                    have n2 : decide ((1 : Int) < ((0 : Nat) : Int)) = false := by decide
                    have n3 : ¬ ((0 : Int) > 1) := by omega
                    replace hk0 := hide hk0
                    replace hp0 := hide hp0
                    go_wp2
                    go_quiet (fail)
                    go_wp2
                    go_roundg g'
                    case measure => exact hgg.out
                    case rel => exact ⟨1, rfl, by go_num, hg', below_drewN hbelZ _⟩
                  · have hk0 := hok2.out.kind i a ha.out h0
                    have b0 : (a.kind == 0) = false := by rw [beq_eq_false_iff_ne]; exact hk0
                    have n0 : ((i : Int) == 0) = false := by rw [beq_eq_false_iff_ne]; omega
                    have n1 : (i : Int) > 0 := by omega
                    replace hk0 := hide hk0
                    obtain ⟨m, rfl⟩ : ∃ m, i = m + 1 := ⟨i - 1, by omega⟩
                    obtain ⟨c, hc, v1, v2, hlt⟩ := hprev.out m rfl
                    have hmN : m < N := by omega
                    have hmi : (m : Int) < (N : Int) := by omega
                    have hm1 : ((m + 1 : Nat) : Int) - 1 = (m : Int) := by omega
                    replace hc := hide hc
                    rcases Nat.eq_zero_or_pos m with h1 | h1
                    · subst h1
                      have n2 : ¬ ((0 + 1 : Nat) : Int) > 1 := by omega
                      have n3 : decide ((1 : Int) < ((0 + 1 : Nat) : Int)) = false := by decide
                      go_wp2
                      go_quiet (fail)
                      go_wp2
                      go_roundg g'
                      case measure => exact hgg.out
                      case rel => exact ⟨2, rfl, by go_num, hg', below_drewN hbelZ _⟩
                    · have n2 : (m : Int) + 1 > 1 := by omega
                      have n3 : decide ((1 : Int) < (m : Int) + 1) = true := decide_eq_true (by omega)
                      have n4 : (0 : Int) < (m : Int) := by omega
                      have n5 : (m : Int) + 1 - 1 = (m : Int) := by omega
                      have hlt := hlt h1
                      unfold AccLt at hlt
                      by_cases hbb : c.block = a.block
                      · have hpp : c.pos < a.pos := by omega
                        have m1 : ¬ c.block > a.block := by omega
                        have m2 : decide (a.block < c.block) = false := decide_eq_false (by omega)
                        have m3 : (c.block == a.block) = true := by rw [hbb]; simp
                        have m4 : ¬ c.pos ≥ a.pos := by omega
                        have m5 : decide (a.pos ≤ c.pos) = false := decide_eq_false (by omega)
                        replace hbb := hide hbb
                        replace hlt := hide hlt
                        replace hpp := hide hpp
                        go_wp2
                        go_quiet (fail)
                        go_wp2
                        go_roundg g'
                        case measure => exact hgg.out
                        case rel => exact ⟨m + 2, rfl, by go_num, hg', below_drewN hbelZ _⟩
                      · have m1 : ¬ c.block > a.block := by omega
                        have m2 : decide (a.block < c.block) = false := decide_eq_false (by omega)
                        have m3 : (c.block == a.block) = false := by rw [beq_eq_false_iff_ne]; exact hbb
                        replace hbb := hide hbb
                        replace hlt := hide hlt
                        go_wp2
                        go_quiet (fail)
                        go_wp2
                        go_roundg g'
                        case measure => exact hgg.out
                        case rel => exact ⟨m + 2, rfl, by go_num, hg', below_drewN hbelZ _⟩
            · obtain rfl : i = N := by omega
              have hfe : Hid ((T : Int) - (kcA (L.take i) : Nat) = 0) := hide (by
                rw [List.take_of_length_le (by rw [hN.out]; exact Nat.le_refl _), hkt.out]; omega)
              have hfb : Hid (((T : Int) - (kcA (L.take i) : Nat) == 0) = true) := hide (by rw [hfe.out]; rfl)
              have hfin := hide (hbO.out V hbel)
              rw [hfe.out]
              go_wp2
              go_ret
              exact ⟨rfl, hfin.out⟩
end Go.Proofs.Ytidjaohlaljmpaa
