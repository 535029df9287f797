/- LoopsNest: two loops have nothing in common, or one lies in the other. -/
import Derived.Test.YtidjaohlaljmpaaLoU
import Derived.Test.YtidjaohlaljmpaaLoT
import Derived.Test.YtidjaohlaljmpaaDoH
namespace Go.Proofs.Ytidjaohlaljmpaa
open Go.RowKit
set_option linter.unusedSimpArgs false
set_option linter.unusedVariables false

section
variable {sc : Int → List Int} {o lat lat' : List Int} {n : Nat} {a c h b x : Int}
theorem nest1 (O : OrderOk n sc o) (hn : 0 < n) (hh : ¬ LpIn sc o lat a h) (ha : RchW sc h a) (hx : Rch sc x) : LpIn sc o lat a x → RchW sc h x := by
  induction hx with
  | start => exact fun g => .start fun e => hh (e ▸ g)
  | @step x t hx ht ih =>
    intro g
    by_cases e : t = a
    · rw [e]; exact ha
    · have hxo : x ∈ o := (O.mem x).2 ⟨hn, hx⟩
      exact .step (ih (.back hxo ht e g)) ht fun e' => hh (e' ▸ g)
theorem rch_two (hac : a ≠ c) (hx : Rch sc x) : (RchW sc a x ∧ RchW sc c x) ∨ RchW sc c a ∨ RchW sc a c := by
  induction hx with
  | start =>
    by_cases e1 : a = 0
    · refine .inr (.inl ?_)
      rw [e1]
      exact .start fun e => hac (e1.trans e.symm)
    · by_cases e2 : c = 0
      · refine .inr (.inr ?_)
        rw [e2]
        exact .start e1
      · exact .inl ⟨.start e1, .start e2⟩
  | @step x t hx ht ih =>
    rcases ih with ⟨h1, h2⟩ | h
    · by_cases e1 : t = a
      · exact .inr (.inl (by rw [← e1]; exact .step h2 ht fun e => hac (e1.symm.trans e)))
      · by_cases e2 : t = c
        · exact .inr (.inr (by rw [← e2]; exact .step h1 ht e1))
        · exact .inl ⟨.step h1 ht e1, .step h2 ht e2⟩
    · exact .inr h
theorem dom_anti (O : OrderOk n sc o) (h1 : domB sc o a c = true) (h2 : domB sc o c a = true) : a = c := Classical.byContradiction fun hac => by
  have d1 := domB_iff.1 h1
  have d2 := domB_iff.1 h2
  rcases rch_two hac ((O.mem a).1 d1.1).2 with ⟨h, -⟩ | h | h
  · exact h.free_ne rfl
  · exact d2.2.2 h
  · exact d1.2.2 h
theorem nest_or (O : OrderOk n sc o) (hn : 0 < n) (ha : a ∈ o) (hc : c ∈ o) (hla : ∀ x, x ∈ lat → domB sc o a x = true) (hlc : ∀ x, x ∈ lat' → domB sc o c x = true) (h1 : LpIn sc o lat a b) (h2 : LpIn sc o lat' c b) : LpIn sc o lat a c ∨ LpIn sc o lat' c a := Classical.byContradiction fun hno => by
  have n1 : ¬ LpIn sc o lat a c := fun h => hno (.inl h)
  have n2 : ¬ LpIn sc o lat' c a := fun h => hno (.inr h)
  have d1 := domB_iff.1 (lp_dom ha hla h1)
  have d2 := domB_iff.1 (lp_dom hc hlc h2)
  have hb : Rch sc b := ((O.mem b).1 d1.2.1).2
  have hac : a ≠ c := fun e => n1 (e ▸ .head)
  have e1 : domB sc o c a = true := domB_iff.2 ⟨hc, ha, fun hr => d2.2.2 (nest1 O hn n1 hr hb h1)⟩
  have e2 : domB sc o a c = true := domB_iff.2 ⟨ha, hc, fun hr => d1.2.2 (nest1 O hn n2 hr hb h2)⟩
  exact hac (dom_anti O e2 e1)
theorem nest_sub (O : OrderOk n sc o) (ha : a ∈ o) (hc : c ∈ o) (hac : a ≠ c) (hla : ∀ x, x ∈ lat → domB sc o a x = true) (hls : ∀ x, x ∈ lat → a ∈ sc x) (hlc : ∀ x, x ∈ lat' → domB sc o c x = true) (h : LpIn sc o lat' c a) (hb : LpIn sc o lat a b) : LpIn sc o lat' c b := by
  have nc : ¬ LpIn sc o lat a c := fun g => hac (dom_anti O (lp_dom ha hla g) (lp_dom hc hlc h))
  induction hb with
  | head => exact h
  | latch hx => exact .back (domB_iff.1 (hla _ hx)).2.1 (hls _ hx) hac h
  | back ho hs hne hin ih => exact .back ho hs (fun e => nc (e ▸ hin)) ih
end
/-- flags at the members of q -/
def markL (n : Nat) (q : List Int) : List Bool := (List.range n).map fun (b : Nat) => decide ((b : Int) ∈ q)
theorem markL_len {n : Nat} {q : List Int} : (markL n q).length = n := by simp [markL]
theorem markL_at {n b : Nat} {q : List Int} (h : b < n) : (markL n q)[b]? = some (decide ((b : Int) ∈ q)) := by simp [markL, h]
theorem markL_nil {n : Nat} : markL n [] = List.replicate n false := by
  refine List.ext_getElem? fun k => ?_
  by_cases hk : k < n
  · rw [markL_at hk, List.getElem?_replicate, if_pos hk]; simp
  · rw [List.getElem?_eq_none (by rw [markL_len]; omega), List.getElem?_eq_none (by simp; omega)]
theorem markL_set {n b j : Nat} {q : List Int} (hb : b < n) (h : q[j]? = some (b : Int)) : (markL n (q.take j)).set b true = markL n (q.take (j + 1)) := by
  refine List.ext_getElem? fun k => ?_
  by_cases hk : k < n
  · by_cases e : b = k
    · subst e
      rw [List.getElem?_set_self (by rw [markL_len]; exact hk), markL_at hk, List.take_add_one, h]
      simp
    · rw [List.getElem?_set_ne e, markL_at hk, markL_at hk, List.take_add_one, h]
      have : ¬ (k : Int) = (b : Int) := fun e2 => e (by omega)
      simp [this]
  · rw [List.getElem?_eq_none (by rw [List.length_set, markL_len]; omega), List.getElem?_eq_none (by rw [markL_len]; omega)]
def cntB (T : Nat → Bool) (b : Nat) : Nat := ((List.range b).filter T).length
theorem cntB_step {T : Nat → Bool} {b : Nat} : cntB T (b + 1) = cntB T b + (if T b = true then 1 else 0) := by
  unfold cntB
  rw [List.range_succ, List.filter_append, List.length_append]
  by_cases e : T b = true <;> simp [e]
theorem cntB_le {T : Nat → Bool} {b : Nat} : cntB T b ≤ b := by unfold cntB; exact Nat.le_trans (List.length_filter_le ..) (by simp)
theorem cntB_pos {T : Nat → Bool} {b : Nat} (h : 0 < cntB T b) : ∃ k, k < b ∧ T k = true := by
  unfold cntB at h
  obtain ⟨k, hk⟩ := List.exists_mem_of_length_pos h
  rw [List.mem_filter, List.mem_range] at hk
  exact ⟨k, hk⟩
theorem cntB_same {T T' : Nat → Bool} {b : Nat} (h : ∀ k, k < b → T k = T' k) : cntB T b = cntB T' b := by
  unfold cntB
  congr 1
  exact List.filter_congr fun k hk => h k (List.mem_range.1 hk)
/-- which block lies in which loop -/
def inT (LL : List Lp) (i b : Nat) : Bool := decide ((b : Int) ∈ ((LL[i]?).map Lp.blocks).getD [])
theorem inT_at {LL : List Lp} {i b : Nat} {x : Lp} (h : LL[i]? = some x) : inT LL i b = decide ((b : Int) ∈ x.blocks) := by unfold inT; rw [h]; rfl
theorem rowT_mark {LL : List Lp} {i n : Nat} {x : Lp} (h : LL[i]? = some x) : rowT (inT LL) n i = markL n x.blocks := by
  unfold rowT markL
  refine List.map_congr_left fun b _ => ?_
  exact inT_at h
/-- what the statement asks of two loops -/
structure NestOk (LL : List Lp) (n i k : Nat) (x y : Lp) : Prop where
  one : (∃ b, b < n ∧ inT LL i b = true ∧ inT LL k b = true) → inT LL k x.head.toNat = true ∨ inT LL i y.head.toNat = true
  two : inT LL k x.head.toNat = true → i ≠ k → ∀ b, b < n → inT LL i b = true → inT LL k b = true
theorem nest_ok {sc : Int → List Int} {o : List Int} {n i k : Nat} {x y : Lp} (O : OrderOk n sc o) (hx : (loopsS sc o (predsL sc n) n)[i]? = some x) (hy : (loopsS sc o (predsL sc n) n)[k]? = some y) : NestOk (loopsS sc o (predsL sc n) n) n i k x y := by
  have hx' := hx
  have hy' := hy
  unfold loopsS at hx' hy'
  rw [List.getElem?_map] at hx' hy'
  obtain ⟨a, ha, rfl⟩ := Option.map_eq_some_iff.1 hx'
  obtain ⟨c, hc, rfl⟩ := Option.map_eq_some_iff.1 hy'
  obtain ⟨han, hane⟩ := headsS_mem.1 (List.mem_of_getElem? ha)
  obtain ⟨hcn, hcne⟩ := headsS_mem.1 (List.mem_of_getElem? hc)
  have hlat : ∀ h x, x ∈ latF sc o (predsL sc n) h → domB sc o h x = true := fun h x hx => by
    unfold latF at hx
    exact (List.mem_filter.1 hx).2
  have hlsc : ∀ h, h < n → ∀ b, b ∈ latF sc o (predsL sc n) h → (h : Int) ∈ sc b := fun h hh b hb => by
    unfold latF at hb
    have hb' := (List.mem_filter.1 hb).1
    obtain ⟨p, hp⟩ := get_ex (l := predsL sc n) (k := h) (by rw [predsL_len]; exact hh)
    rw [hp.out] at hb'
    exact ((predsL_mem hp.out b).1 hb').2.2
  obtain ⟨ya, hya⟩ := List.exists_mem_of_ne_nil _ hane
  obtain ⟨yc, hyc⟩ := List.exists_mem_of_ne_nil _ hcne
  have hao : (a : Int) ∈ o := (domB_iff.1 (hlat a ya hya)).1
  have hco : (c : Int) ∈ o := (domB_iff.1 (hlat c yc hyc)).1
  have hn : 0 < n := by omega
  have ea : ∀ b : Nat, b < n → (inT (loopsS sc o (predsL sc n) n) i b = true ↔ LpIn sc o (latF sc o (predsL sc n) a) a b) := fun b hb => by
    rw [inT_at hx, decide_eq_true_iff]
    show (b : Int) ∈ lpL _ _ _ _ _ ↔ _
    rw [lpL_mem]
    exact ⟨fun h => h.2.2, fun h => ⟨by omega, by omega, h⟩⟩
  have ec : ∀ b : Nat, b < n → (inT (loopsS sc o (predsL sc n) n) k b = true ↔ LpIn sc o (latF sc o (predsL sc n) c) c b) := fun b hb => by
    rw [inT_at hy, decide_eq_true_iff]
    show (b : Int) ∈ lpL _ _ _ _ _ ↔ _
    rw [lpL_mem]
    exact ⟨fun h => h.2.2, fun h => ⟨by omega, by omega, h⟩⟩
  have e1 : (lp1 sc o (predsL sc n) n a).head.toNat = a := Int.toNat_natCast a
  have e2 : (lp1 sc o (predsL sc n) n c).head.toNat = c := Int.toNat_natCast c
  refine ⟨?_, ?_⟩
  · rintro ⟨b, hb, h1, h2⟩
    rw [e1, e2, ec a han, ea c hcn]
    rcases nest_or O hn hao hco (hlat a) (hlat c) ((ea b hb).1 h1) ((ec b hb).1 h2) with h | h
    · exact .inr h
    · exact .inl h
  · intro h hik b hb h1
    rw [e1, ec a han] at h
    have hac : (a : Int) ≠ (c : Int) := fun e => by
      have e' : a = c := by omega
      subst e'
      have hnd : (headsS sc o (predsL sc n) n).Nodup := by unfold headsS; exact (List.nodup_range).filter _
      exact hik ((List.getElem?_inj (List.getElem?_eq_some_iff.1 ha).1 hnd).1 (ha.trans hc.symm))
    exact (ec b hb).2 (nest_sub O hao hco hac (hlat a) (hlsc a han) (hlat c) h ((ea b hb).1 h1))
/-- rows of truth values, the first a of them laid, all in blocks below L -/
def TabM (T : Nat → Nat → Bool) (m n : Nat) (w : World) (B g L a : Nat) : Prop := ∃ cs : List Value, w.ownsRow B 42 1 (.slice (some ⟨g, 0, none⟩) m m) m cs ∧
  ∀ k : Nat, k < a → ∃ gk, cs[k]? = some (.slice (some ⟨gk, 0, none⟩) n n) ∧ gk < L ∧ w.ownsRow 0 4 1 (.slice (some ⟨gk, 0, none⟩) n n) n ((rowT T n k).map Value.bool)
section
variable {T : Nat → Nat → Bool} {m n B g L L' a : Nat} {w w' : World}
theorem TabM.start (h : w.ownsRow B 42 1 (.slice (some ⟨g, 0, none⟩) m m) m (List.replicate m (Value.slice none 0 0))) : TabM T m n w B g L 0 := ⟨_, h, fun k hk => by omega⟩
theorem TabM.below (h : TabM T m n w B g L a) (hb : Below w.heap.size w w') : TabM T m n w' B g L a := by
  obtain ⟨cs, h1, h2⟩ := h
  exact ⟨cs, row_kept h1 fun k hk => hb.block k (row_lt h1 hk).2.1, fun k hk => by
    obtain ⟨gk, h3, h4, h5⟩ := h2 k hk
    exact ⟨gk, h3, h4, row_kept h5 fun k hk => hb.block k (row_lt h5 hk).2.1⟩⟩
theorem TabM.only (h : TabM T m n w B g L a) (ho : Only (fun k => k = L) w.heap.size w w') (hg : ∀ c t, w.heap[L]? = some (.cells c t (0, 0)) → t = 4) : TabM T m n w' B g L a := by
  obtain ⟨cs, h1, h2⟩ := h
  refine ⟨cs, row_kept h1 fun k hk => ho.block k (row_lt h1 hk).2.1 (fun e => ?_), fun k hk => ?_⟩
  · obtain ⟨-, -, c5, h6⟩ := row_lt h1 hk
    have e' : k = L := e
    rw [e'] at h6
    exact absurd (hg _ _ h6) (by decide)
  · obtain ⟨gk, h3, h4, h5⟩ := h2 k hk
    exact ⟨gk, h3, h4, row_kept h5 fun k hk => ho.block k (row_lt h5 hk).2.1 (fun e => by cases hk; have e' : gk = L := e; omega)⟩
theorem TabM.put (h : TabM T m n w B g L a) (ha : a < m) : TabM T m n (w.setCell ⟨g, a, none⟩ (.slice (some ⟨L, 0, none⟩) n n)) B g L a ∧ ∃ cs : List Value, (w.setCell ⟨g, a, none⟩ (.slice (some ⟨L, 0, none⟩) n n)).cell? ⟨g, a, none⟩ = some (.slice (some ⟨L, 0, none⟩) n n) := by
  obtain ⟨cs, h1, h2⟩ := h
  have h3 := (World.ownsRow.stored h1 a (.slice (some ⟨L, 0, none⟩) n n)).1
  have hbut := But.stored (j := a) (u := .slice (some ⟨L, 0, none⟩) n n) h1
  have hl : cs.length = m := by have := h1.1; omega
  refine ⟨⟨_, h3, fun k hk => ?_⟩, [], ?_⟩
  · obtain ⟨gk, h4, h5, h6⟩ := h2 k hk
    exact ⟨gk, by rw [List.getElem?_set_ne (by omega)]; exact h4, h5, hbut.row (by decide) h6⟩
  · rw [World.ownsRow.cellAt h3 a (by omega), List.getElem?_set_self (by omega)]
/-- the row that was laid last is whole -/
theorem TabM.more (h : TabM T m n w B g L a) (ha : a < m) (hc : w.cell? ⟨g, a, none⟩ = some (.slice (some ⟨L, 0, none⟩) n n)) (hr : w.ownsRow 0 4 1 (.slice (some ⟨L, 0, none⟩) n n) n ((rowT T n a).map Value.bool)) : TabM T m n w B g (L + 1) (a + 1) := by
  obtain ⟨cs, h1, h2⟩ := h
  have hl : cs.length = m := by have := h1.1; omega
  refine ⟨cs, h1, fun k hk => ?_⟩
  by_cases e : k = a
  · subst e
    rw [World.ownsRow.cellAt h1 k (by omega)] at hc
    exact ⟨L, hc, by omega, hr⟩
  · obtain ⟨gk, h4, h5, h6⟩ := h2 k (by omega)
    exact ⟨gk, h4, by omega, h6⟩
theorem TabM.up (h : TabM T m n w B g L a) (hL : L ≤ L') : TabM T m n w B g L' a := by
  obtain ⟨cs, h1, h2⟩ := h
  exact ⟨cs, h1, fun k hk => by obtain ⟨gk, h4, h5, h6⟩ := h2 k hk; exact ⟨gk, h4, by omega, h6⟩⟩
theorem TabM.reads (h : TabM T m n w B g L m) : ∀ a : Nat, a < m → ∃ ga, (∀ w', Below w.heap.size w w' → w'.cell? ⟨g, a, none⟩ = some (.slice (some ⟨ga, 0, none⟩) n n)) ∧ ∀ b : Nat, b < n → ∀ w', Below w.heap.size w w' → w'.cell? ⟨ga, b, none⟩ = some (.bool (T a b)) := by
  obtain ⟨cs, h1, h2⟩ := h
  intro a ha
  obtain ⟨ga, h3, h4, h5⟩ := h2 a ha
  refine ⟨ga, fun w' hb => ?_, fun b hb w' hw => ?_⟩
  · rw [hb.cell (p := ⟨g, a, none⟩) (row_lt h1 rfl).2.1, World.ownsRow.cellAt h1 a (by omega)]
    exact h3
  · rw [hw.cell (p := ⟨ga, b, none⟩) (row_lt h5 rfl).2.1]
    exact OwnB.cell h5 (rowT_at T hb) (by omega)
end

set_option maxRecDepth 100000 in
set_option maxHeartbeats 12800000 in
theorem law_loops_nest (f : Fun) (c1 c2 : Value) (w : World) (hf : RFun.rep w w.heap.size [.string f.name, c1, .int .i64 f.ret, c2] f) (hs : Small f) (hsz : funSz f ≤ 2000000) :
    Calls Try.prog 4 #[f.v c1 c2] w (LawPost w) := by
  obtain ⟨hp, hb⟩ := fun_open (RFun.later hf (Below.refl _ _) (Nat.le_refl _))
  obtain ⟨A1, k1, h1, -, -⟩ := Rp.slice1_open hp
  obtain ⟨A2, k2, h2, hm2, -⟩ := Rp.slice1_open hb
  cases h1; cases h2
  clear hp hb
  obtain ⟨n, hn⟩ : ∃ n, Hid (n = f.blocks.length) := ⟨_, hide rfl⟩
  have hnle : n ≤ 2000000 := by rw [hn.out]; exact hs.blocks
  obtain ⟨O, hO⟩ : ∃ O, Hid (O = orderF f.blocks) := ⟨_, hide rfl⟩
  obtain ⟨sc, hsc⟩ : ∃ sc, Hid (sc = succsF f.blocks) := ⟨_, hide rfl⟩
  obtain ⟨R, hR⟩ : ∃ R, Hid (R = reachF f.blocks) := ⟨_, hide rfl⟩
  obtain ⟨P, hP⟩ : ∃ P, Hid (P = predsL sc n) := ⟨_, hide rfl⟩
  have hPl : P.length = n := by rw [hP.out, predsL_len]
  have hRl : R.length = n := by rw [hR.out, hn.out, reach_len]
  have hsok : Hid (∀ b, SuccOk n (sc b)) := hide (fun b => by rw [hsc.out, hn.out]; exact succsF_ok _ _)
  have hok : Hid (OrderOk n sc O) := hide (by rw [hO.out, hn.out, hsc.out]; exact order_ok _)
  have hol : O.length ≤ n := by rw [hO.out, hn.out]; exact order_len _
  have hRat : Hid (∀ k : Nat, k < n → R[k]? = some (decide ((k : Int) ∈ O))) := hide (fun k hk => by rw [hR.out, hO.out]; exact reach_at _ _ (by rw [← hn.out]; exact hk))
  rw [← hn.out]
  rw [← hn.out] at hf hm2
  obtain ⟨W, hW, hwW, hWs, hx⟩ := boxes1 w #[.string f.name, .slice A1 f.params.length k1, .int .i64 f.ret, .slice A2 n k2] 25
  have q0 : ∀ w', Below W.heap.size W w' → w'.cell? ⟨w.heap.size, 0, none⟩ = some (.string f.name) := hx 0 _ rfl
  have q1 : ∀ w', Below W.heap.size W w' → w'.cell? ⟨w.heap.size, 1, none⟩ = some (.slice A1 f.params.length k1) := hx 1 _ rfl
  have q2 : ∀ w', Below W.heap.size W w' → w'.cell? ⟨w.heap.size, 2, none⟩ = some (.int .i64 f.ret) := hx 2 _ rfl
  have q3 : ∀ w', Below W.heap.size W w' → w'.cell? ⟨w.heap.size, 3, none⟩ = some (.slice A2 n k2) := hx 3 _ rfl
  clear hx
  have hws : w.heap.size ≤ W.heap.size := by omega
  replace hWs := hide hWs
  have hself := Below.refl W.heap.size W
  have hF : Hid (∀ w', Below W.heap.size W w' → RFun.rep w' w'.heap.size [.string f.name, .slice A1 f.params.length k1, .int .i64 f.ret, .slice A2 n k2] f) := hide (fun w' h => RFun.later hf (hwW.trans (h.mono hws)) (hwW.trans (h.mono hws)).size)
  obtain ⟨lb, hlb⟩ : ∃ lb, Hid (lb = long7F f) := ⟨_, hide rfl⟩
  have cL : Hid (∀ w', Below W.heap.size W w' → Calls Try.prog 12 #[f.v (.slice A1 f.params.length k1) (.slice A2 n k2)] w' (RetB lb w')) := hide (fun w' h => by
    have := long13_any f (.slice A1 f.params.length k1) (.slice A2 n k2) w' w'.heap.size (Nat.le_refl _) (hF.out w' h) hsz
    rwa [← hlb.out] at this)
  have cF : Hid (∀ w', Below W.heap.size W w' → Calls Try.prog 14 #[f.v (.slice A1 f.params.length k1) (.slice A2 n k2)] w' (LoopPost (loopsS sc O P n) w')) := hide (fun w' h => by
    have := lfind_any f (.slice A1 f.params.length k1) (.slice A2 n k2) w' w'.heap.size (Nat.le_refl _) (hF.out w' h) hs
    rwa [← hn.out, ← hO.out, ← hsc.out, ← hP.out] at this)
  replace hs := hide hs
  replace hf := hide hf
  replace hwW := hide hwW
  obtain ⟨i0, hi0, hz0, hz1, hz2⟩ := cinfo_parts cinfo_bools
  replace hi0 := hide hi0
  replace hz0 := hide hz0
  replace hz1 := hide hz1
  replace hz2 := hide hz2
  obtain ⟨j0, hj0, hy0, hy1, hy2⟩ := cinfo_parts cinfo_bool
  replace hj0 := hide hj0
  replace hy0 := hide hy0
  replace hy1 := hide hy1
  replace hy2 := hide hy2
  replace hW := hide hW
  go_enter Try.func4, Try.ntmps4
  go_upto_region 1 with (fail)
  rw [hW.out]
  go_wp2_with (fail)
  refine (lives13_any _).mono ?_
  rintro e w1 ⟨rfl, hb1⟩
  go_wp2_with (fail)
  refine (cL.out _ hb1).mono ?_
  rintro e w2 ⟨rfl, hb2⟩
  have hbel2 := hb1.trans (hb2.mono hb1.size)
  clear hb1 hb2 cL
  cases lb with
  | true =>
    go_wp2
    go_ret
    exact ⟨rfl, hwW.out.trans (hbel2.mono hws)⟩
  | false =>
    obtain ⟨LL, hLL⟩ : ∃ LL, Hid (LL = loopsS sc O P n) := ⟨_, hide rfl⟩
    have hNe : Hid (∀ i k x y, LL[i]? = some x → LL[k]? = some y → NestOk LL n i k x y) := hide (by
      rw [hLL.out, hP.out]
      exact fun i k x y hx hy => nest_ok hok.out hx hy)
    have hLb : Hid (∀ x, x ∈ LL → (∃ k : Nat, k < n ∧ x.head = k) ∧ x.blocks.length ≤ n ∧ ∀ b, b ∈ x.blocks → 0 ≤ b ∧ b < n) := hide (fun x hx => by
      rw [hLL.out] at hx
      unfold loopsS at hx
      obtain ⟨h, hh, rfl⟩ := List.mem_map.1 hx
      exact ⟨⟨h, (headsS_mem.1 hh).1, rfl⟩, lpL_len, fun b hb => ⟨(lpL_mem.1 hb).1, (lpL_mem.1 hb).2.1⟩⟩)
    rw [← hLL.out] at cF
    obtain ⟨NL, hNL⟩ : ∃ NL, Hid (LL.length = NL) := ⟨_, hide rfl⟩
    have hNLn : NL ≤ n := by rw [← hNL.out, hLL.out]; exact loopsS_len
    go_wp2_with (fail)
    refine (cF.out _ hbel2).mono ?_
    rintro e X ⟨va, es, rfl, hA, hb3⟩
    obtain ⟨Aa, Ca, rfl⟩ := row_form hA.row
    rw [hNL.out] at hA ⊢
    have hbX := hbel2.trans (hb3.mono hbel2.size)
    have hsX := hbX.size
    have p3 : ∀ w', Below X.heap.size X w' → w'.cell? ⟨w.heap.size, 3, none⟩ = some (.slice A2 n k2) := fun w' h => q3 w' (hbX.trans (h.mono hsX))
    have hWX : Hid (∀ w', Below X.heap.size X w' → Below W.heap.size W w') := hide (fun w' h => hbX.trans (h.mono hsX))
    replace hA := hide hA
    clear hb3 hbel2 q0 q1 q2 q3 hself hbX cF
    go_wp2_with (at_make; refine wpList_make_full _ rfl (.tmp 24) (.tmp 24) _ rfl X.heap.size 42 i0 _ 1 Try.underlying41 hi0.out hz0.out hz1.out .i64 .i64 NL NL NL rfl rfl rfl rfl ?c1 ?c2 (Nat.le_refl _) ?_)
    case c1 => rw [hz2.out]; omega
    case c2 => unfold maxLen; omega
    intro w5 hown5 hg5
    have hb5 := below_grown0 hg5
    have hT5 : Hid (∃ L, L ≤ w5.heap.size ∧ TabM (inT LL) NL n w5 X.heap.size X.heap.size L 0) := hide ⟨0, Nat.zero_le _, TabM.start (made_slices hown5)⟩
    clear hown5 hg5
    go_wp2
    go_loopw [28] (fun s wr => ∃ i : Nat, s = .int .i64 i ∧ i ≤ NL ∧ Hid (∃ L, L ≤ wr.heap.size ∧ TabM (inT LL) NL n wr X.heap.size X.heap.size L i) ∧ Below X.heap.size X wr) (fun s _ => NL - (intOf s).toNat)
    case atStart => exact ⟨0, rfl, Nat.zero_le _, hT5, hb5⟩
    case round =>
      clear hT5 hb5
      rename World => V
      obtain ⟨i, rfl, hi, hTa, hbel⟩ := hrel
      have hVs := hbel.size
      by_cases hlti : i < NL
      · have hii : (i : Int) < (NL : Int) := by omega
        obtain ⟨x, hx⟩ := get_ex (l := LL) (k := i) (by rw [hNL.out]; exact hlti)
        obtain ⟨⟨h0, hh0, hxh⟩, hxn, hxb⟩ := hLb.out x (List.mem_of_getElem? hx.out)
        obtain ⟨e1, he1⟩ := hA.out.at_ hx.out
        have hinn := hA.out.inn i x e1 hx.out he1
        obtain ⟨e1b, e1l, e1e⟩ := e1
        obtain ⟨Ab, Cb, hvb, rb⟩ := int_reads hinn.1
        obtain ⟨Al, Cl, hvl⟩ := row_form hinn.2.1.row
        obtain ⟨Ae, Ce, hve⟩ := row_form hinn.2.2.row
        simp only at hvb hvl hve
        subst hvb hvl hve
        obtain ⟨ga, hga⟩ : ∃ ga, Aa = some ⟨ga, 0, none⟩ := by
          have hr := hA.out.row
          rw [hNL.out] at hr
          obtain ⟨g, cap, hv, -, -⟩ := hr.form (by omega)
          cases hv
          exact ⟨g, rfl⟩
        subst hga
        obtain ⟨nb, hnb⟩ : ∃ nb, Hid (x.blocks.length = nb) := ⟨_, hide rfl⟩
        rw [hnb.out] at hxn he1 rb
        obtain ⟨a0, a1, a2, a3, a4⟩ := (hA.out.below hbel).cells hx.out he1
        have a1' : V.cell? ⟨ga, i * 5 + 1, none⟩ = some (.slice Ab nb Cb) := a1
        have a2' : V.cell? ⟨ga, i * 5 + 2, none⟩ = some (.slice Al x.latch.length Cl) := a2
        have a3' : V.cell? ⟨ga, i * 5 + 3, none⟩ = some (.slice Ae x.exits.length Ce) := a3
        replace rb := hide rb
        replace hxb := hide hxb
        replace hxh := hide hxh
        clear hinn a1 a2 a3
        obtain ⟨V1, hV1, hwV1, hV1s, hxx⟩ := boxes1 V #[.int .i64 x.head, .slice Ab nb Cb, .slice Al x.latch.length Cl, .slice Ae x.exits.length Ce, .int .i64 (x.depth : Int)] 34
        have x1 : ∀ w', Below V1.heap.size V1 w' → w'.cell? ⟨V.heap.size, 1, none⟩ = some (.slice Ab nb Cb) := hxx 1 _ rfl
        have hb1 := hbel.trans (hwV1.mono hVs)
        have hT1 : Hid (TabM (inT LL) NL n V1 X.heap.size X.heap.size V1.heap.size i) := hide (by
          obtain ⟨L, h1, h2⟩ := hTa.out
          exact (h2.up (Nat.le_trans h1 hwV1.size)).below hwV1)
        have hVV1 : Hid (∀ w', Below V1.heap.size V1 w' → Below V.heap.size V w') := hide (fun w' h => hwV1.trans (h.mono hwV1.size))
        have hb1s := hb1.size
        replace hwV1 := hide hwV1
        have hVs1 := hide hV1s
        replace hV1s := hide hV1s
        have hT0 := hTa
        clear hxx hTa hbel
        go_upto_region 10 with (fail)
        replace hV1 := hide hV1
        clear a0 a1' a2' a3' a4
        go_wp2_with (at_make; refine wpList_make_full _ rfl (.tmp 37) (.tmp 37) _ rfl V1.heap.size 4 j0 _ 1 Try.underlying42 hj0.out hy0.out hy1.out .i64 .i64 n n n rfl rfl rfl rfl ?c1 ?c2 (Nat.le_refl _) ?_)
        case c1 => rw [hy2.out]; omega
        case c2 => unfold maxLen; omega
        intro w6 hown6 hg6
        have hb6 := below_grown0 hg6
        have hR6 := made_bools hown6
        have hs6 : V1.heap.size < w6.heap.size := (row_lt hR6 rfl).2.1
        have hT6 : Hid (TabM (inT LL) NL n w6 X.heap.size X.heap.size V1.heap.size i) := hide (hT1.out.below hb6)
        obtain ⟨cs6, hr6, -⟩ := id hT6.out
        have hcl : cs6.length = NL := by have := hr6.1; omega
        obtain ⟨u6, hu6⟩ := get_ex (l := cs6) (k := i) (by omega)
        have rz6 : w6.cell? ⟨X.heap.size, i, none⟩ = some u6 := by rw [World.ownsRow.cellAt hr6 i (by omega)]; exact hu6.out
        have fz6 : w6.frozen? ⟨X.heap.size, i, none⟩ = false := World.ownsRow.frozenAt hr6 i
        have hT7 := hide (hT6.out.put hlti)
        have hR7 : Hid ((w6.setCell ⟨X.heap.size, i, none⟩ (.slice (some ⟨V1.heap.size, 0, none⟩) n n)).ownsRow 0 4 1 (.slice (some ⟨V1.heap.size, 0, none⟩) n n) n ((markL n (x.blocks.take 0)).map Value.bool)) := hide (by
          rw [List.take_zero, markL_nil]
          exact (But.stored (j := i) (u := .slice (some ⟨V1.heap.size, 0, none⟩) n n) hr6).row (by decide) (row_mono hR6 (Nat.zero_le _)))
        have hXV1 : X.heap.size < V1.heap.size := by
          obtain ⟨cs, h1, -⟩ := hT1.out
          exact (row_lt h1 (k := X.heap.size) rfl).2.1
        have hXw6 : Below X.heap.size X (w6.setCell ⟨X.heap.size, i, none⟩ (.slice (some ⟨V1.heap.size, 0, none⟩) n n)) := (hb1.trans (hb6.mono hb1s)).setCell (p := ⟨X.heap.size, i, none⟩) (Nat.le_refl _) _
        have hVg : X.heap.size < V.heap.size := by
          obtain ⟨L, hL, cs, h1, -⟩ := id hT0.out
          exact (row_lt h1 (k := X.heap.size) rfl).2.1
        have x17 : Hid ((w6.setCell ⟨X.heap.size, i, none⟩ (.slice (some ⟨V1.heap.size, 0, none⟩) n n)).cell? ⟨V.heap.size, 1, none⟩ = some (.slice Ab nb Cb)) := hide (by
          rw [World.cell?_of_block (w := w6) (heap_setCell_other w6 ⟨X.heap.size, i, none⟩ V.heap.size _ (fun e => by have e' : V.heap.size = X.heap.size := e; omega))]
          exact x1 w6 hb6)
        have hVlt : V.heap.size < w6.heap.size := by have := hVs1.out; omega
        clear hg6 hown6 hR6 hr6
        go_upto_region 11 with (fail)
        obtain ⟨Y, hY⟩ : ∃ Y, w6.setCell ⟨X.heap.size, i, none⟩ (.slice (some ⟨V1.heap.size, 0, none⟩) n n) = Y := ⟨_, rfl⟩
        have hYs : Y.heap.size = w6.heap.size := by rw [← hY]; simp
        rw [hY] at hT7 hR7 hXw6 x17 ⊢
        replace hY := hide hY
        obtain ⟨L0, hL0⟩ : ∃ L0, Hid (L0 = V1.heap.size) := ⟨_, hide rfl⟩
        have hVL : V.heap.size < V1.heap.size := by have := hVs1.out; omega
        rw [← hL0.out] at hT7 hR7 hs6 hXV1 hVL
        have hselfY := Only.refl (Is L0) Y.heap.size Y
        have x1Y : ∀ w', Only (Is L0) Y.heap.size Y w' → w'.cell? ⟨V.heap.size, 1, none⟩ = some (.slice Ab nb Cb) := fun w' ho => by
          rw [ho.cell (p := ⟨V.heap.size, 1, none⟩) (by show V.heap.size < Y.heap.size; omega) (fun e => by have e' : V.heap.size = L0 := e; omega)]
          exact x17.out
        have rcY : ∀ w', Only (Is L0) Y.heap.size Y w' → w'.cell? ⟨X.heap.size, i, none⟩ = some (.slice (some ⟨L0, 0, none⟩) n n) := fun w' ho => by
          obtain ⟨h1, -, h2⟩ := hT7.out
          rw [ho.cell (p := ⟨X.heap.size, i, none⟩) (by show X.heap.size < Y.heap.size; omega) (fun e => by have e' : X.heap.size = L0 := e; omega)]
          exact h2
        have hYo : Hid (∀ w', Only (Is L0) Y.heap.size Y w' → Below X.heap.size X w') := hide (fun w' ho => hXw6.trans (ho.to_below (fun k hk => by have e : k = L0 := hk; omega) hXw6.size))
        replace hYs := hide hYs
        clear rz6 fz6 hb6 hXw6 x1 hT1 hT6 hVV1 hb1
        go_wp2
        go_loopw [43] (fun s wr => ∃ j : Nat, s = .int .i64 j ∧ j ≤ nb ∧ Hid (wr.ownsRow 0 4 1 (.slice (some ⟨L0, 0, none⟩) n n) n ((markL n (x.blocks.take j)).map Value.bool)) ∧ Only (Is L0) Y.heap.size Y wr) (fun s _ => nb - (intOf s).toNat)
        case atStart => exact ⟨0, rfl, Nat.zero_le _, hR7, hselfY⟩
        case round =>
          clear hselfY
          rename World => Q
          obtain ⟨j, rfl, hj, hR, hon⟩ := hrel
          have hXQ := hYo.out Q hon
          by_cases hltj : j < nb
          · have hji : (j : Int) < (nb : Int) := by omega
            obtain ⟨t, ht9⟩ := get_ex (l := x.blocks) (k := j) (by rw [hnb.out]; exact hltj)
            obtain ⟨g5, hg5, rx⟩ := rb.out (by omega)
            subst hg5
            have rx0 := rx j _ ht9.out Q hXQ
            clear rx
            have htb := hxb.out t (List.mem_of_getElem? ht9.out)
            obtain ⟨tn, rfl⟩ := Int.eq_ofNat_of_zero_le htb.1
            have htn : tn < n := by omega
            have ht0 : ¬ (tn : Int) < 0 := by omega
            have ht1 : ¬ (tn : Int) ≥ (n : Int) := by omega
            obtain ⟨u7, hu7⟩ := get_ex (l := markL n (x.blocks.take j)) (k := tn) (by rw [markL_len]; exact htn)
            have rm : Q.cell? ⟨L0, tn, none⟩ = some (.bool u7) := OwnB.cell hR.out hu7.out htn
            have fm : Q.frozen? ⟨L0, tn, none⟩ = false := World.ownsRow.frozenAt hR.out tn
            have st := (World.ownsRow.stored hR.out tn (.bool true)).1
            rw [bmap_set, markL_set htn ht9.out] at st
            replace st := hide st
            have hon9 := hide (hon.setCell (p := ⟨L0, tn, none⟩) (.inl rfl) (.bool true))
            replace htb := hide htb
            go_wp2
            go_roundw
            case rel => exact ⟨j + 1, by go_num, hltj, st, hon9.out⟩
            case measure => simp [intOf]; omega
          · obtain rfl : j = nb := by omega
            have hnx : Hid (∃ L, L ≤ Q.heap.size ∧ TabM (inT LL) NL n Q X.heap.size X.heap.size L (i + 1)) := hide (by
              have hty : ∀ c t, Y.heap[L0]? = some (.cells c t (0, 0)) → t = 4 := fun c t h => by
                obtain ⟨-, -, c', h'⟩ := row_lt hR7.out (k := L0) rfl
                rw [h] at h'
                injection h' with h'
                injection h'
              have h1 := hT7.out.1.only hon hty
              have h2 := hR.out
              rw [List.take_of_length_le (by rw [hnb.out]; exact Nat.le_refl _), ← rowT_mark hx.out] at h2
              exact ⟨L0 + 1, by have := hon.size; have := hYs.out; omega, h1.more hlti (rcY Q hon) h2⟩)
            go_wp2
            go_roundw
            case rel => exact ⟨i + 1, by go_num, hlti, hnx, hXQ⟩
            case measure => simp [intOf]; omega
      · obtain rfl : i = NL := by omega
        have hrd : Hid (∀ a : Nat, a < i → ∃ ga, (∀ w', Below V.heap.size V w' → w'.cell? ⟨X.heap.size, a, none⟩ = some (.slice (some ⟨ga, 0, none⟩) n n)) ∧ ∀ b : Nat, b < n → ∀ w', Below V.heap.size V w' → w'.cell? ⟨ga, b, none⟩ = some (.bool (inT LL a b))) := hide (by
          obtain ⟨L, -, h⟩ := hTa.out
          exact h.reads)
        have hXV : Hid (∀ w', Below V.heap.size V w' → Below X.heap.size X w') := hide (fun w' h => hbel.trans (h.mono hVs))
        obtain ⟨GI, hGI⟩ : ∃ GI, Hid (GI = X.heap.size) := ⟨_, hide rfl⟩
        rw [← hGI.out] at hrd ⊢
        have hselfV := Below.refl V.heap.size V
        clear hTa hbel
        go_wp2
        go_loopw [66] (fun s wr => ∃ a : Nat, s = .int .i64 a ∧ a ≤ i ∧ Below V.heap.size V wr) (fun s _ => i - (intOf s).toNat)
        case atStart => exact ⟨0, rfl, Nat.zero_le _, hselfV⟩
        case round =>
          clear hselfV
          rename World => Q
          obtain ⟨a, rfl, ha, hon⟩ := hrel
          have hQs := hon.size
          by_cases hlta : a < i
          · have hai : (a : Int) < (i : Int) := by omega
            obtain ⟨x, hx⟩ := get_ex (l := LL) (k := a) (by rw [hNL.out]; exact hlta)
            obtain ⟨⟨hx0, hx0n, hxh⟩, -, -⟩ := hLb.out x (List.mem_of_getElem? hx.out)
            obtain ⟨⟨eb, el, ee⟩, he1⟩ := hA.out.at_ hx.out
            have hinn := (hA.out.below (hXV.out Q hon)).inn a x _ hx.out he1
            obtain ⟨Ab, Cb, Al, Cl, Ae, Ce, heq⟩ := lp_lits hinn
            cases heq
            obtain ⟨ga, hga⟩ : ∃ ga, Aa = some ⟨ga, 0, none⟩ := by
              have hr := hA.out.row
              rw [hNL.out] at hr
              obtain ⟨g, cap, hv, -, -⟩ := hr.form (by omega)
              cases hv
              exact ⟨g, rfl⟩
            subst hga
            obtain ⟨a0, a1, a2, a3, a4⟩ := (hA.out.below (hXV.out Q hon)).cells hx.out he1
            rw [hxh] at a0
            have a1' : Q.cell? ⟨ga, a * 5 + 1, none⟩ = some (.slice Ab x.blocks.length Cb) := a1
            have a2' : Q.cell? ⟨ga, a * 5 + 2, none⟩ = some (.slice Al x.latch.length Cl) := a2
            have a3' : Q.cell? ⟨ga, a * 5 + 3, none⟩ = some (.slice Ae x.exits.length Ce) := a3
            obtain ⟨W1, hW1, hwW1, hW1s, hxx⟩ := boxes1 Q #[.int .i64 (hx0 : Int), .slice Ab x.blocks.length Cb, .slice Al x.latch.length Cl, .slice Ae x.exits.length Ce, .int .i64 (x.depth : Int)] 34
            have x0 : ∀ w', Below W1.heap.size W1 w' → w'.cell? ⟨Q.heap.size, 0, none⟩ = some (.int .i64 (hx0 : Int)) := hxx 0 _ rfl
            have hon1 := hon.trans (hwW1.mono hQs)
            have h1s := hon1.size
            have hVW1 : Hid (∀ w', Below W1.heap.size W1 w' → Below V.heap.size V w') := hide (fun w' h => hon1.trans (h.mono h1s))
            have hself1 := Below.refl W1.heap.size W1
            replace hwW1 := hide hwW1
            replace hW1s := hide hW1s
            obtain ⟨gx, rgx, rTx⟩ := hrd.out a hlta
            replace rTx := hide rTx
            clear hxx hinn a1 a2 a3
            go_upto_region 22 with (fail)
            replace hW1 := hide hW1
            clear a0 a1' a2' a3' a4
            go_wp2
            go_loopw [73] (fun s wr => ∃ k : Nat, s = .int .i64 k ∧ k ≤ i ∧ Below W1.heap.size W1 wr) (fun s _ => i - (intOf s).toNat)
            case atStart => exact ⟨0, rfl, Nat.zero_le _, hself1⟩
            case round =>
              clear hself1 hon hQs
              rename_i Q9
              rename World => U
              obtain ⟨k, rfl, hk, hon⟩ := hrel
              have hUs := hon.size
              by_cases hltk : k < i
              · have hki : (k : Int) < (i : Int) := by omega
                obtain ⟨y, hy⟩ := get_ex (l := LL) (k := k) (by rw [hNL.out]; exact hltk)
                obtain ⟨⟨hy0, hy0n, hyh⟩, -, -⟩ := hLb.out y (List.mem_of_getElem? hy.out)
                obtain ⟨⟨yb, yl, ye⟩, he2⟩ := hA.out.at_ hy.out
                have hinn := (hA.out.below (hXV.out _ (hVW1.out U hon))).inn k y _ hy.out he2
                obtain ⟨Bb, Db, Bl, Dl, Be, De, heq⟩ := lp_lits hinn
                cases heq
                obtain ⟨c0, c1, c2, c3, c4⟩ := (hA.out.below (hXV.out _ (hVW1.out U hon))).cells hy.out he2
                rw [hyh] at c0
                have c1' : U.cell? ⟨ga, k * 5 + 1, none⟩ = some (.slice Bb y.blocks.length Db) := c1
                have c2' : U.cell? ⟨ga, k * 5 + 2, none⟩ = some (.slice Bl y.latch.length Dl) := c2
                have c3' : U.cell? ⟨ga, k * 5 + 3, none⟩ = some (.slice Be y.exits.length De) := c3
                obtain ⟨W2, hW2, hwW2, hW2s, hyy⟩ := boxes1 U #[.int .i64 (hy0 : Int), .slice Bb y.blocks.length Db, .slice Bl y.latch.length Dl, .slice Be y.exits.length De, .int .i64 (y.depth : Int)] 34
                have y0 : ∀ w', Below W2.heap.size W2 w' → w'.cell? ⟨U.heap.size, 0, none⟩ = some (.int .i64 (hy0 : Int)) := hyy 0 _ rfl
                have hon4 := hon.trans (hwW2.mono hUs)
                have h4s := hon4.size
                have hVW2 : Hid (∀ w', Below W2.heap.size W2 w' → Below V.heap.size V w') := hide (fun w' h => hVW1.out w' (hon4.trans (h.mono h4s)))
                have hself4 := Below.refl W2.heap.size W2
                obtain ⟨gy, rgy, rTy⟩ := hrd.out k hltk
                replace rTy := hide rTy
                have xx0 : ∀ w', Below W2.heap.size W2 w' → w'.cell? ⟨Q.heap.size, 0, none⟩ = some (.int .i64 (hx0 : Int)) := fun w' h => x0 w' (hon4.trans (h.mono h4s))
                have pp3 : ∀ w', Below W2.heap.size W2 w' → w'.cell? ⟨w.heap.size, 3, none⟩ = some (.slice A2 n k2) := fun w' h => p3 w' (hXV.out _ (hVW2.out w' h))
                have rx2 : ∀ w', Below W2.heap.size W2 w' → w'.cell? ⟨GI, a, none⟩ = some (.slice (some ⟨gx, 0, none⟩) n n) := fun w' h => rgx w' (hVW2.out w' h)
                have ry2 : ∀ w', Below W2.heap.size W2 w' → w'.cell? ⟨GI, k, none⟩ = some (.slice (some ⟨gy, 0, none⟩) n n) := fun w' h => rgy w' (hVW2.out w' h)
                have hNok := hNe.out a k x y hx.out hy.out
                have hone := hNok.one
                have htwo := hNok.two
                rw [hxh, hyh, Int.toNat_natCast, Int.toNat_natCast] at hone
                rw [hxh, Int.toNat_natCast] at htwo
                replace hNok := hide hNok
                replace hone := hide hone
                replace htwo := hide htwo
                replace hwW2 := hide hwW2
                replace hW2s := hide hW2s
                clear hyy hinn c1 c2 c3
                go_upto_region 25 with (fail)
                replace hW2 := hide hW2
                clear c0 c1' c2' c3' c4
                have hz0 : Hid (cntB (fun b => inT LL a b && inT LL k b) 0 = 0 ∧ cntB (inT LL a) 0 = 0) := hide ⟨rfl, rfl⟩
                go_wp2
                go_loopw [13, 14, 81] (fun s13 s14 s wr => ∃ b : Nat, s = .int .i64 b ∧ b ≤ n ∧ s13 = .int .i64 (cntB (fun b => inT LL a b && inT LL k b) b : Int) ∧ s14 = .int .i64 (cntB (inT LL a) b : Int) ∧ wr = W2) (fun _ _ s _ => n - (intOf s).toNat)
                case atStart => exact ⟨0, rfl, Nat.zero_le _, rfl, rfl, rfl⟩
                case round =>
                  obtain ⟨b, rfl, hb, rfl, rfl, rfl⟩ := hrel
                  by_cases hltb : b < n
                  · have hbi : (b : Int) < (n : Int) := by omega
                    have rtx := rTx.out b hltb wr (hVW2.out _ hself4)
                    have rty := rTy.out b hltb wr (hVW2.out _ hself4)
                    have s1 := cntB_step (T := fun b => inT LL a b && inT LL k b) (b := b)
                    have s2 := cntB_step (T := inT LL a) (b := b)
                    have l1 := cntB_le (T := fun b => inT LL a b && inT LL k b) (b := b)
                    have l2 := cntB_le (T := inT LL a) (b := b)
                    obtain ⟨q1, hq1⟩ : ∃ q1, Hid (cntB (fun b => inT LL a b && inT LL k b) b = q1) := ⟨_, hide rfl⟩
                    obtain ⟨q2, hq2⟩ : ∃ q2, Hid (cntB (inT LL a) b = q2) := ⟨_, hide rfl⟩
                    rw [hq1.out] at s1 l1 ⊢
                    rw [hq2.out] at s2 l2 ⊢
                    have hw1 : IntKind.i64.wrap ((q1 : Int) + 1) = (q1 : Int) + 1 := by rw [IntKind.wrap_i64]; omega
                    have hw2 : IntKind.i64.wrap ((q2 : Int) + 1) = (q2 : Int) + 1 := by rw [IntKind.wrap_i64]; omega
                    obtain ⟨tx, htx⟩ : ∃ tx, Hid (inT LL a b = tx) := ⟨_, hide rfl⟩
                    obtain ⟨ty, hty⟩ : ∃ ty, Hid (inT LL k b = ty) := ⟨_, hide rfl⟩
                    simp only [htx.out, hty.out] at rtx rty s1 s2
                    cases tx with
                    | false =>
                      simp only [Bool.false_and, Bool.false_eq_true, if_false, Nat.add_zero] at s1 s2
                      replace s1 := hide s1
                      replace s2 := hide s2
                      go_wp2
                      go_roundw
                      case rel => exact ⟨b + 1, by go_num, hltb, by rw [s1.out], by rw [s2.out], by trivial⟩
                      case measure => simp [intOf]; omega
                    | true =>
                      cases ty with
                      | false =>
                        simp only [Bool.and_false, Bool.false_eq_true, if_false, if_true, Nat.add_zero] at s1 s2
                        replace s1 := hide s1
                        replace s2 := hide s2
                        go_wp2
                        go_roundw
                        case rel => exact ⟨b + 1, by go_num, hltb, by rw [s1.out], by rw [s2.out]; rfl, by trivial⟩
                        case measure => simp [intOf]; omega
                      | true =>
                        simp only [Bool.and_true, if_true] at s1 s2
                        replace s1 := hide s1
                        replace s2 := hide s2
                        go_wp2
                        go_roundw
                        case rel => exact ⟨b + 1, by go_num, hltb, by rw [s1.out]; rfl, by rw [s2.out]; rfl, by trivial⟩
                        case measure => simp [intOf]; omega
                  · obtain rfl : b = n := by omega
                    obtain ⟨cb, hcb⟩ : ∃ cb, Hid (cntB (fun b => inT LL a b && inT LL k b) b = cb) := ⟨_, hide rfl⟩
                    obtain ⟨ca, hca⟩ : ∃ ca, Hid (cntB (inT LL a) b = ca) := ⟨_, hide rfl⟩
                    rw [hcb.out, hca.out]
                    obtain ⟨hd, hhd⟩ : ∃ hd, Hid (inT LL k hx0 = hd) := ⟨_, hide rfl⟩
                    obtain ⟨ik, hik⟩ : ∃ ik, Hid (inT LL a hy0 = ik) := ⟨_, hide rfl⟩
                    have rk : ∀ w', Below wr.heap.size wr w' → w'.cell? ⟨gy, hx0, none⟩ = some (.bool hd) := fun w' h => by rw [← hhd.out]; exact rTy.out hx0 hx0n w' (hVW2.out w' h)
                    have ri : ∀ w', Below wr.heap.size wr w' → w'.cell? ⟨gx, hy0, none⟩ = some (.bool ik) := fun w' h => by rw [← hik.out]; exact rTx.out hy0 hy0n w' (hVW2.out w' h)
                    have g0 : (hx0 : Int) ≥ 0 := by omega
                    have g1 : (hx0 : Int) < (b : Int) := by omega
                    have g2 : (hy0 : Int) < (b : Int) := by omega
                    have f1 := xx0 wr hself4
                    have f2 := pp3 wr hself4
                    have f3 := ry2 wr hself4
                    have f4 := rk wr hself4
                    have hone2 : Hid (0 < cb → hd = false → ik = true) := hide (fun h0 h1 => by
                      rw [← hcb.out] at h0
                      obtain ⟨q, hq, hqt⟩ := cntB_pos h0
                      rw [Bool.and_eq_true] at hqt
                      rcases hone.out ⟨q, hq, hqt.1, hqt.2⟩ with h | h
                      · rw [hhd.out, h1] at h; cases h
                      · rw [hik.out] at h; exact h)
                    have htwo2 : Hid (hd = true → a ≠ k → cb = ca) := hide (fun h0 h1 => by
                      rw [← hcb.out, ← hca.out]
                      refine cntB_same fun q hq => ?_
                      cases hqa : inT LL a q with
                      | false => rfl
                      | true => rw [htwo.out (by rw [hhd.out]; exact h0) h1 q hq hqa]; rfl)
                    clear rTx rTy
                    cases hd with
                    | true =>
                      by_cases hak : a = k
                      · have hne : ((a : Int) != (k : Int)) = false := by rw [hak]; simp
                        replace hak := hide hak
                        by_cases hbt : 0 < cb
                        · have h1 : (cb : Int) > 0 := by omega
                          go_upto_region 34 with (fail)
                          go_quiet (fail)
                          have hb9 := bdn hself4 nq
                          generalize wr.drewN nq = V2 at hb9 ⊢
                          have k5 := rx2 V2 hb9
                          have k6 := ri V2 hb9
                          have k7 := y0 V2 hb9
                          go_upto_region 35 with (fail)
                          go_quiet (fail)
                          go_wp2
                          go_roundw
                          case rel => exact ⟨k + 1, by go_num, hltk, hon4.trans ((bdn hb9 _).mono h4s)⟩
                          case measure => simp [intOf]; omega
                        · have h1 : decide ((cb : Int) > 0) = false := decide_eq_false (by omega)
                          go_upto_region 34 with (fail)
                          go_quiet (fail)
                          have hb9 := bdn hself4 nq
                          generalize wr.drewN nq = V2 at hb9 ⊢
                          have k5 := rx2 V2 hb9
                          have k6 := ri V2 hb9
                          have k7 := y0 V2 hb9
                          go_upto_region 35 with (fail)
                          go_quiet (fail)
                          go_wp2
                          go_roundw
                          case rel => exact ⟨k + 1, by go_num, hltk, hon4.trans ((bdn hb9 _).mono h4s)⟩
                          case measure => simp [intOf]; omega
                      · have hne : ((a : Int) != (k : Int)) = true := by rw [bne_iff_ne]; omega
                        have hcc := htwo2.out rfl hak
                        have hnc : ((cb : Int) != (ca : Int)) = false := by rw [hcc]; simp
                        replace hcc := hide hcc
                        replace hak := hide hak
                        by_cases hbt : 0 < cb
                        · have h1 : (cb : Int) > 0 := by omega
                          go_upto_region 34 with (fail)
                          go_quiet (fail)
                          have hb9 := bdn hself4 nq
                          generalize wr.drewN nq = V2 at hb9 ⊢
                          have k5 := rx2 V2 hb9
                          have k6 := ri V2 hb9
                          have k7 := y0 V2 hb9
                          go_upto_region 35 with (fail)
                          go_quiet (fail)
                          go_wp2
                          go_roundw
                          case rel => exact ⟨k + 1, by go_num, hltk, hon4.trans ((bdn hb9 _).mono h4s)⟩
                          case measure => simp [intOf]; omega
                        · have h1 : decide ((cb : Int) > 0) = false := decide_eq_false (by omega)
                          go_upto_region 34 with (fail)
                          go_quiet (fail)
                          have hb9 := bdn hself4 nq
                          generalize wr.drewN nq = V2 at hb9 ⊢
                          have k5 := rx2 V2 hb9
                          have k6 := ri V2 hb9
                          have k7 := y0 V2 hb9
                          go_upto_region 35 with (fail)
                          go_quiet (fail)
                          go_wp2
                          go_roundw
                          case rel => exact ⟨k + 1, by go_num, hltk, hon4.trans ((bdn hb9 _).mono h4s)⟩
                          case measure => simp [intOf]; omega
                    | false =>
                      by_cases hbt : 0 < cb
                      · have h1 : (cb : Int) > 0 := by omega
                        have hikt := hone2.out hbt rfl
                        subst hikt
                        go_upto_region 34 with (fail)
                        go_quiet (fail)
                        have hb9 := bdn hself4 nq
                        generalize wr.drewN nq = V2 at hb9 ⊢
                        have k5 := rx2 V2 hb9
                        have k6 := ri V2 hb9
                        have k7 := y0 V2 hb9
                        go_upto_region 35 with (fail)
                        go_quiet (fail)
                        go_wp2
                        go_roundw
                        case rel => exact ⟨k + 1, by go_num, hltk, hon4.trans ((bdn hb9 _).mono h4s)⟩
                        case measure => simp [intOf]; omega
                      · have h1 : decide ((cb : Int) > 0) = false := decide_eq_false (by omega)
                        go_upto_region 34 with (fail)
                        go_quiet (fail)
                        have hb9 := bdn hself4 nq
                        generalize wr.drewN nq = V2 at hb9 ⊢
                        have k5 := rx2 V2 hb9
                        have k6 := ri V2 hb9
                        have k7 := y0 V2 hb9
                        go_upto_region 35 with (fail)
                        go_quiet (fail)
                        go_wp2
                        go_roundw
                        case rel => exact ⟨k + 1, by go_num, hltk, hon4.trans ((bdn hb9 _).mono h4s)⟩
                        case measure => simp [intOf]; omega
              · obtain rfl : k = i := by omega
                have hVU := hVW1.out U hon
                go_wp2
                go_roundw
                case rel => exact ⟨a + 1, by go_num, hlta, hVU⟩
                case measure => simp [intOf]; omega
          · obtain rfl : a = i := by omega
            have hw := hide (hwW.out.trans ((hWX.out _ (hXV.out Q hon)).mono hws))
            go_wp2
            go_ret
            exact ⟨rfl, hw.out⟩
end Go.Proofs.Ytidjaohlaljmpaa
