/- Two blocks changed about: successors, the search, reachability are changed about likewise; no program is in sight. No condition. | Dominance, the plain side of the laws: one nearest dominator, order, going up, other numbers. No condition. -/
import Derived.Test.YteeclobpajalmaaGrV
import Derived.Test.YteeclobpajalmaaDoF
namespace Go.Proofs.Yteeclobpajalmaa
set_option linter.unusedVariables false

/-- where a block is when a and b are changed about -/
def mv (a b x : Int) : Int := if x = a then b else if x = b then a else x
theorem mv_mv (a b x : Int) : mv a b (mv a b x) = x := by
  unfold mv
  by_cases h1 : x = a
  · subst h1
    by_cases h2 : b = x
    · simp [h2]
    · simp [h2]
  · by_cases h2 : x = b
    · subst h2; simp [h1]
    · simp [h1, h2]
theorem mv_inj {a b x y : Int} (h : mv a b x = mv a b y) : x = y := by rw [← mv_mv a b x, h, mv_mv]
theorem mv_in {a b x : Int} {n : Nat} (ha : 0 ≤ a ∧ a < n) (hb : 0 ≤ b ∧ b < n) : (0 ≤ mv a b x ∧ mv a b x < n) ↔ (0 ≤ x ∧ x < n) := by
  unfold mv
  split
  · rename_i h; subst h; simp [ha, hb]
  · split
    · rename_i h; subst h; simp [ha, hb]
    · exact Iff.rfl
theorem mv_zero {a b : Int} (ha : 0 < a) (hb : 0 < b) : mv a b 0 = 0 := by
  unfold mv
  rw [if_neg (by omega), if_neg (by omega)]
def setTo (x : Ins) (l : List Int) : Ins := { x with «to» := l }
def mvIns (a b : Int) (x : Ins) : Ins := setTo x (x.to.map (mv a b))
def mvAll (a b : Int) (bs : List (List Ins)) : List (List Ins) := bs.map fun c => c.map (mvIns a b)
/-- the function's blocks with a and b changed about -/
def swapS (a b : Nat) (bs : List (List Ins)) : List (List Ins) := ((mvAll a b bs).set a ((mvAll a b bs).getD b [])).set b ((mvAll a b bs).getD a [])
theorem swap_len (a b : Nat) (bs : List (List Ins)) : (swapS a b bs).length = bs.length := by simp [swapS, mvAll]
theorem swap_at {a b : Nat} {bs : List (List Ins)} (ha : a < bs.length) (hb : b < bs.length) {k : Nat} {x : List Ins} (hx : bs[k]? = some x) : (swapS a b bs)[(mv a b k).toNat]? = some (x.map (mvIns a b)) := by
  have hm : ∀ (k : Nat) x, bs[k]? = some x → (mvAll a b bs).getD k [] = x.map (mvIns a b) := fun k x h => by simp [mvAll, List.getD, h]
  have hk := (List.getElem?_eq_some_iff.1 hx).1
  unfold swapS mv
  by_cases h1 : (k : Int) = a
  · have e : k = a := by omega
    subst e
    rw [if_pos rfl, Int.toNat_natCast, List.getElem?_set_self (by simp [mvAll]; exact hb), hm k x hx]
  · rw [if_neg h1]
    by_cases h2 : (k : Int) = b
    · have e : k = b := by omega
      subst e
      rw [if_pos rfl, Int.toNat_natCast, List.getElem?_set_ne (by omega), List.getElem?_set_self (by simp [mvAll]; exact ha), hm k x hx]
    · rw [if_neg h2, Int.toNat_natCast, List.getElem?_set_ne (by omega), List.getElem?_set_ne (by omega)]
      simp [mvAll, hx]
theorem keep_mv {a b : Int} {n : Nat} (ha : 0 ≤ a ∧ a < n) (hb : 0 ≤ b ∧ b < n) (acc : List Int) (t : Int) : keepS n (acc.map (mv a b)) (mv a b t) = (keepS n acc t).map (mv a b) := by
  have hin := mv_in (x := t) ha hb
  have hmem : mv a b t ∈ acc.map (mv a b) ↔ t ∈ acc := by
    rw [List.mem_map]
    exact ⟨fun ⟨x, hx, e⟩ => by rw [← mv_inj e]; exact hx, fun h => ⟨t, h, rfl⟩⟩
  by_cases h : 0 ≤ t ∧ t < n ∧ t ∉ acc
  · rw [keepS_yes h, keepS_yes ⟨(hin.2 ⟨h.1, h.2.1⟩).1, (hin.2 ⟨h.1, h.2.1⟩).2, fun hm => h.2.2 (hmem.1 hm)⟩]
    simp
  · rw [keepS_no h, keepS_no fun h' => h ⟨(hin.1 ⟨h'.1, h'.2.1⟩).1, (hin.1 ⟨h'.1, h'.2.1⟩).2, fun hm => h'.2.2 (hmem.2 hm)⟩]
theorem succsL_mv {a b : Int} {n : Nat} (ha : 0 ≤ a ∧ a < n) (hb : 0 ≤ b ∧ b < n) (to_ : List Int) : succsL n (to_.map (mv a b)) = (succsL n to_).map (mv a b) := by
  have key : ∀ (l acc : List Int), (l.map (mv a b)).foldl (keepS n) (acc.map (mv a b)) = (l.foldl (keepS n) acc).map (mv a b) := by
    intro l
    induction l with
    | nil => intro acc; rfl
    | cons t l ih => intro acc; rw [List.map_cons, List.foldl_cons, List.foldl_cons, keep_mv ha hb, ih]
  exact key to_ []
theorem succsB_mv {a b : Int} {n : Nat} (ha : 0 ≤ a ∧ a < n) (hb : 0 ≤ b ∧ b < n) (x : List Ins) : succsB n (x.map (mvIns a b)) = (succsB n x).map (mv a b) := by
  unfold succsB
  rw [List.getLast?_map]
  cases x.getLast? with
  | none => rfl
  | some i =>
    show (if i.op = 31 ∨ i.op = 32 then succsL n (i.to.map (mv a b)) else []) = _
    by_cases h : i.op = 31 ∨ i.op = 32
    · rw [if_pos h, succsL_mv ha hb]; simp only [if_pos h]
    · rw [if_neg h]; simp only [if_neg h]; rfl
theorem succsF_mv {a b : Nat} {bs : List (List Ins)} (ha : a < bs.length) (hb : b < bs.length) (x : Int) : succsF (swapS a b bs) (mv a b x) = (succsF bs x).map (mv a b) := by
  have ha' : (0 : Int) ≤ a ∧ (a : Int) < bs.length := by omega
  have hb' : (0 : Int) ≤ b ∧ (b : Int) < bs.length := by omega
  have hin := mv_in (x := x) ha' hb'
  unfold succsF
  by_cases h0 : 0 ≤ x
  · obtain ⟨k, rfl⟩ := Int.eq_ofNat_of_zero_le h0
    by_cases hk : k < bs.length
    · obtain ⟨c, hc⟩ : ∃ c, bs[k]? = some c := ⟨_, List.getElem?_eq_getElem hk⟩
      rw [if_pos (hin.2 ⟨by omega, by omega⟩).1, if_pos h0, swap_at ha hb hc, Int.toNat_natCast, hc, swap_len]
      exact succsB_mv ha' hb' c
    · have e : mv a b (k : Int) = k := by unfold mv; rw [if_neg (by omega), if_neg (by omega)]
      rw [e, if_pos h0, if_pos h0, Int.toNat_natCast, List.getElem?_eq_none (by rw [swap_len]; omega), List.getElem?_eq_none (by omega)]
      rfl
  · have e : mv a b x = x := by unfold mv; rw [if_neg (by omega), if_neg (by omega)]
    rw [e, if_neg h0, if_neg h0]; rfl
/-- marks that are changed about likewise -/
def MarkMv (a b : Int) (n : Nat) (m m' : List Bool) : Prop := m.length = n ∧ m'.length = n ∧ ∀ x : Int, 0 ≤ x → x < n → m'[(mv a b x).toNat]? = m[x.toNat]?
theorem mark_set {a b : Int} {n : Nat} (ha : 0 ≤ a ∧ a < n) (hb : 0 ≤ b ∧ b < n) {m m' : List Bool} (h : MarkMv a b n m m') {t : Int} (h0 : 0 ≤ t) (h1 : t < n) : MarkMv a b n (m.set t.toNat true) (m'.set (mv a b t).toNat true) := by
  obtain ⟨g1, g2, g3⟩ := h
  refine ⟨by rw [List.length_set]; exact g1, by rw [List.length_set]; exact g2, fun x hx0 hx1 => ?_⟩
  have ht := (mv_in (x := t) ha hb).2 ⟨h0, h1⟩
  have hx := (mv_in (x := x) ha hb).2 ⟨hx0, hx1⟩
  by_cases e : t = x
  · subst e
    rw [List.getElem?_set_self (by omega), List.getElem?_set_self (by omega)]
  · have e' : mv a b t ≠ mv a b x := fun h => e (mv_inj h)
    rw [List.getElem?_set_ne (by omega), List.getElem?_set_ne (by omega)]
    exact g3 x hx0 hx1
theorem dfs_mv {a b : Int} {n : Nat} (ha : 0 ≤ a ∧ a < n) (hb : 0 ≤ b ∧ b < n) {sc sc' : Int → List Int} (hs : ∀ x, SuccOk n (sc x)) (hsc : ∀ x, sc' (mv a b x) = (sc x).map (mv a b)) (st : List (Int × List Int)) (m : List Bool) (out : List Int) :
    DfsOk n st m out → ∀ m', MarkMv a b n m m' → dfs sc' (st.map fun p => (mv a b p.1, p.2.map (mv a b))) m' (out.map (mv a b)) = (dfs sc st m out).map (mv a b) := by
  induction st, m, out using dfs.induct (succ := sc) with
  | case1 m out => intro _ m' _; rw [dfs_nil, List.map_nil, dfs_nil]
  | case2 m out x st ih =>
    intro h m' hm
    rw [dfs_pop, List.map_cons, List.map_nil, dfs_pop, ← ih (dfsOk_pop h) m' hm, List.map_append]
    rfl
  | case3 m out x t ts st hmk ih =>
    intro h m' hm
    have ht := (h.inn _ (List.mem_cons_self ..)).2 t (List.mem_cons_self ..)
    rw [dfs_push hmk, ← ih (dfsOk_push h hmk (hs t).bound) _ (mark_set ha hb hm ht.1 ht.2), List.map_cons, List.map_cons, dfs_push (by rw [hm.2.2 t ht.1 ht.2]; exact hmk), hsc]
    rfl
  | case4 m out x t ts st hmk ih =>
    intro h m' hm
    have ht := (h.inn _ (List.mem_cons_self ..)).2 t (List.mem_cons_self ..)
    rw [dfs_skip hmk, ← ih (dfsOk_skip h) m' hm, List.map_cons, List.map_cons, dfs_skip (by rw [hm.2.2 t ht.1 ht.2]; exact hmk)]
    rfl
theorem order_mv {a b : Nat} {bs : List (List Ins)} (ha : 0 < a ∧ a < bs.length) (hb : 0 < b ∧ b < bs.length) : orderF (swapS a b bs) = (orderF bs).map (mv a b) := by
  have ha' : (0 : Int) ≤ a ∧ (a : Int) < bs.length := by omega
  have hb' : (0 : Int) ≤ b ∧ (b : Int) < bs.length := by omega
  have hn : bs.length ≠ 0 := by omega
  have hz : mv (a : Int) b 0 = 0 := mv_zero (by omega) (by omega)
  unfold orderF
  rw [swap_len, if_neg hn, if_neg hn, List.map_reverse]
  congr 1
  have h0 := succsF_mv ha.2 hb.2 (bs := bs) 0
  rw [hz] at h0
  have hmk : MarkMv a b bs.length ((List.replicate bs.length false).set 0 true) ((List.replicate bs.length false).set 0 true) := by
    refine ⟨by simp, by simp, fun x hx0 hx1 => ?_⟩
    have hx := (mv_in (x := x) ha' hb').2 ⟨hx0, hx1⟩
    by_cases e : x = 0
    · subst e; rw [hz]
    · have e' : mv (a : Int) b x ≠ 0 := fun h => e (mv_inj (h.trans hz.symm))
      rw [List.getElem?_set_ne (by omega), List.getElem?_set_ne (by omega), List.getElem?_replicate, List.getElem?_replicate, if_pos (by omega), if_pos (by omega)]
  have := dfs_mv ha' hb' (succsF_ok bs) (fun x => succsF_mv ha.2 hb.2 x) [(0, succsF bs 0)] _ [] (dfsOk_start (by omega) (succsF_ok bs 0).bound) _ hmk
  rw [← this, List.map_cons, List.map_nil, List.map_nil, hz, h0]
theorem reach_mv {a b : Nat} {bs : List (List Ins)} (ha : 0 < a ∧ a < bs.length) (hb : 0 < b ∧ b < bs.length) {k : Nat} (hk : k < bs.length) : (reachF (swapS a b bs))[(mv a b k).toNat]? = (reachF bs)[k]? := by
  have ha' : (0 : Int) ≤ a ∧ (a : Int) < bs.length := by omega
  have hb' : (0 : Int) ≤ b ∧ (b : Int) < bs.length := by omega
  have hx := (mv_in (x := (k : Int)) ha' hb').2 ⟨by omega, by omega⟩
  rw [reach_at _ _ hk, reach_at _ _ (by rw [swap_len]; omega), order_mv ha hb, Int.toNat_of_nonneg hx.1]
  congr 1
  have : mv (a : Int) b k ∈ (orderF bs).map (mv a b) ↔ (k : Int) ∈ orderF bs := by
    rw [List.mem_map]
    exact ⟨fun ⟨x, hx, e⟩ => by rw [← mv_inj e]; exact hx, fun h => ⟨_, h, rfl⟩⟩
  simp only [this]
end Go.Proofs.Yteeclobpajalmaa

namespace Go.Proofs.Yteeclobpajalmaa
set_option linter.unusedVariables false

section
variable {sc : Int → List Int} {o : List Int} {n : Nat} {l : List Int} {a b c : Int}
theorem Dom.refl_ (h : a ∈ o) : Dom sc o a a := ⟨h, h, fun h => h.free_ne rfl⟩
theorem Dom.self_iff : Dom sc o a a ↔ a ∈ o := ⟨fun h => h.1, Dom.refl_⟩
theorem Dom.zero_iff (h0 : (0 : Int) ∈ o) : Dom sc o 0 a ↔ a ∈ o := ⟨fun h => h.2.1, fun h => ⟨h0, h, fun h => rchW_zero h⟩⟩
theorem Dom.trans_ (h : Dom sc o a b) (h' : Dom sc o b c) : Dom sc o a c := ⟨h.1, h'.2.1, fun hr => by
  rcases hr.split b with h1 | h1
  · exact h.2.2 h1
  · exact h'.2.2 h1⟩
theorem Dom.anti_ (I : IdomOk sc o n l) (O : OrderOk n sc o) (hn : 0 < n) (h : Dom sc o a b) (h' : Dom sc o b a) : a = b :=
  (I.tree O hn).anti (ord_ok O hn) (I.alive O hn h.1) (I.alive O hn h.2.1) h.2.2 h'.2.2
theorem IdomOk.at_unique (I : IdomOk sc o n l) (O : OrderOk n sc o) {b : Nat} {u : Int} (hb : b < n) (hbo : (b : Int) ∈ o) (h0 : b ≠ 0) (hu : u ∈ o) (hne : u ≠ b) (hd : ¬ RchW sc u b) (hc : ∀ c, c ≠ (b : Int) → ¬ RchW sc c b → ¬ RchW sc c u) : l[b]? = some u := by
  obtain ⟨v, h3, h4, h5, h6, h7, h8⟩ := I.some_ b hb hbo h0
  have hn : 0 < n := by omega
  have : v = u := (I.tree O hn).anti (ord_ok O hn) (I.alive O hn h4) (I.alive O hn hu) (hc v h5 h7) (h8 u hne hd)
  rw [h3, this]
/-- going up, so far -/
def UpS (sc : Int → List Int) (o l : List Int) (a b x : Int) (i : Nat) : Prop :=
  (x = -1 ∧ ¬ Dom sc o a b) ∨ (x = b ∧ i = 0 ∧ b ∉ o) ∨ (x ∈ o ∧ b ∈ o ∧ o.idxOf x + i ≤ o.idxOf b ∧ (Dom sc o a b ↔ Anc (topF l) a x))
theorem ups_start (I : IdomOk sc o n l) (O : OrderOk n sc o) (hn : 0 < n) (ha : a ∈ o ∨ a ∉ o ∧ b ∉ o) : UpS sc o l a b b 0 := by
  by_cases hb : b ∈ o
  · rcases ha with ha | ha
    · exact .inr (.inr ⟨hb, hb, by omega, (show Dom sc o a b ↔ ¬ RchW sc a b from ⟨fun h => h.2.2, fun h => ⟨ha, hb, h⟩⟩).trans (I.anc O hn hb).symm⟩)
    · exact (ha.2 hb).elim
  · exact .inr (.inl ⟨rfl, rfl, hb⟩)
theorem ups_step (I : IdomOk sc o n l) (O : OrderOk n sc o) {x u : Int} {i : Nat} (h : UpS sc o l a b x i) (hx : 0 ≤ x) (hxn : x < n) (hne : x ≠ a) (hu : l[x.toNat]? = some u) : UpS sc o l a b u (i + 1) := by
  obtain ⟨xn, rfl⟩ := Int.eq_ofNat_of_zero_le hx
  rw [Int.toNat_natCast] at hu
  rcases h with ⟨h1, -⟩ | ⟨h1, h2, h3⟩ | ⟨h1, h2, h3, h4⟩
  · omega
  · subst h1
    have := I.none_ xn (by omega) (.inl h3)
    rw [hu] at this
    exact .inl ⟨Option.some.inj this, fun h => h3 h.2.1⟩
  · by_cases hz : xn = 0
    · subst hz
      have := I.none_ 0 (by omega) (.inr rfl)
      rw [hu] at this
      refine .inl ⟨Option.some.inj this, fun h => ?_⟩
      have := anc_zero.1 (h4.1 h)
      exact hne (by rw [this]; rfl)
    · obtain ⟨v, h5, h6, h7, h8, -⟩ := I.some_ xn (by omega) h1 hz
      rw [hu] at h5
      cases h5
      exact .inr (.inr ⟨h6, h2, by omega, h4.trans (anc_up hz hu hne)⟩)
theorem ups_neg {i : Nat} (h : UpS sc o l a b (-1) i) (O : OrderOk n sc o) (hb : 0 ≤ b) : ¬ Dom sc o a b := by
  rcases h with ⟨-, h⟩ | ⟨h1, h2, h3⟩ | ⟨h1, h2, h3, h4⟩
  · exact h
  · omega
  · exact fun _ => by have := O.bound _ h1; omega
theorem ups_cases {x : Int} {i : Nat} (h : UpS sc o l a b x i) (O : OrderOk n sc o) (hb : 0 ≤ b ∧ b < n) : x = -1 ∨ (0 ≤ x ∧ x < n ∧ i < n) := by
  rcases h with ⟨h1, -⟩ | ⟨h1, h2, h3⟩ | ⟨h1, h2, h3, h4⟩
  · exact .inl h1
  · exact .inr ⟨by omega, by omega, by omega⟩
  · have h5 := O.bound _ h1
    have h6 : o.idxOf b < o.length := List.idxOf_lt_length_iff.2 h2
    have h7 : o.length ≤ n := range_len n o O.nodup O.bound
    exact .inr ⟨h5.1, h5.2, by omega⟩
theorem ups_end {i : Nat} (h : UpS sc o l a b a i) (O : OrderOk n sc o) (ha : 0 ≤ a) : (Dom sc o a b ↔ (a ∈ o ∧ b ∈ o)) := by
  rcases h with ⟨h1, -⟩ | ⟨h1, h2, h3⟩ | ⟨h1, h2, h3, h4⟩
  · omega
  · subst h1; exact ⟨fun h => (h3 h.1).elim, fun h => (h3 h.1).elim⟩
  · exact ⟨fun h => ⟨h.1, h.2.1⟩, fun _ => h4.2 .refl⟩
theorem rchW_mv {A B : Int} (hA : 0 < A) (hB : 0 < B) {sc sc' : Int → List Int} (h : ∀ x, sc' (mv A B x) = (sc x).map (mv A B)) {c x : Int} (hr : RchW sc c x) : RchW sc' (mv A B c) (mv A B x) := by
  induction hr with
  | start h0 =>
    rw [mv_zero hA hB]
    refine .start fun e => h0 ?_
    rw [← mv_zero hA hB] at e
    exact mv_inj e
  | step _ h1 h2 ih => exact .step ih (by rw [h]; exact List.mem_map_of_mem h1) fun e => h2 (mv_inj e)
theorem rchW_mv_iff {A B : Int} (hA : 0 < A) (hB : 0 < B) {sc sc' : Int → List Int} (h : ∀ x, sc' (mv A B x) = (sc x).map (mv A B)) {c x : Int} : RchW sc' (mv A B c) (mv A B x) ↔ RchW sc c x := by
  refine ⟨fun hr => ?_, rchW_mv hA hB h⟩
  have h' : ∀ x, sc (mv A B x) = (sc' x).map (mv A B) := fun x => by
    have := h (mv A B x)
    rw [mv_mv] at this
    rw [this, List.map_map]
    have e : (mv A B) ∘ (mv A B) = id := by funext y; exact mv_mv A B y
    rw [e, List.map_id]
  have := rchW_mv hA hB h' hr
  rwa [mv_mv, mv_mv] at this
theorem idom_mv {A B : Nat} (hA : 0 < A ∧ A < n) (hB : 0 < B ∧ B < n) {sc' : Int → List Int} {l' : List Int} (h : ∀ x, sc' (mv A B x) = (sc x).map (mv A B)) (I : IdomOk sc o n l) (O : OrderOk n sc o) (I' : IdomOk sc' (o.map (mv A B)) n l') (O' : OrderOk n sc' (o.map (mv A B)))
    {x : Nat} (hx : x < n) {u : Int} (hu : l[x]? = some u) : l'[(mv A B x).toNat]? = some (mv A B u) := by
  have hA0 : (0 : Int) < A := by omega
  have hB0 : (0 : Int) < B := by omega
  have hm := (mv_in (a := (A : Int)) (b := (B : Int)) (x := (x : Int)) (n := n) (by omega) (by omega)).2 ⟨by omega, by omega⟩
  obtain ⟨y, hy⟩ := Int.eq_ofNat_of_zero_le hm.1
  have hyn : y < n := by omega
  have hmem : ∀ z : Int, mv A B z ∈ o.map (mv A B) ↔ z ∈ o := fun z => ⟨fun h => by
    obtain ⟨v, h1, h2⟩ := List.mem_map.1 h
    rw [← mv_inj h2]; exact h1, fun h => List.mem_map_of_mem h⟩
  have hne1 : mv A B (-1) = -1 := by unfold mv; rw [if_neg (by omega), if_neg (by omega)]
  have hz : y = 0 ↔ x = 0 := by
    constructor
    · intro e
      have e2 : mv A B (x : Int) = mv A B 0 := by rw [hy, e, mv_zero hA0 hB0]; rfl
      have := mv_inj e2
      omega
    · intro e
      rw [e] at hy
      have e2 : ((0 : Nat) : Int) = 0 := rfl
      rw [e2, mv_zero hA0 hB0] at hy
      omega
  rw [hy, Int.toNat_natCast]
  by_cases hxo : (x : Int) ∈ o ∧ x ≠ 0
  · obtain ⟨v, h3, h4, h5, h6, h7, h8⟩ := I.some_ x hx hxo.1 hxo.2
    rw [hu] at h3
    cases h3
    have hyo : (y : Int) ∈ o.map (mv A B) := by
      have := (hmem x).2 hxo.1
      rwa [hy] at this
    refine I'.at_unique O' hyn hyo (fun e => hxo.2 (hz.1 e)) ((hmem u).2 h4) (fun e => h5 (mv_inj (e.trans hy.symm))) (fun hr => h7 ?_) fun c hc hd hr => ?_
    · have hr' : RchW sc' (mv A B u) (mv A B x) := by rw [hy]; exact hr
      exact (rchW_mv_iff hA0 hB0 h).1 hr'
    · have hcm : mv A B (mv A B c) = c := mv_mv _ _ _
      rw [← hcm] at hr hd
      rw [← show mv A B (x : Int) = (y : Int) from hy] at hd
      exact h8 (mv A B c) (fun e => hc (by rw [← hcm, e, hy])) (fun h' => hd ((rchW_mv_iff hA0 hB0 h).2 h')) ((rchW_mv_iff hA0 hB0 h).1 hr)
  · have h1 := I.none_ x hx (by by_cases h0 : x = 0; exact .inr h0; exact .inl fun h2 => hxo ⟨h2, h0⟩)
    rw [hu] at h1
    cases h1
    rw [hne1]
    refine I'.none_ y hyn ?_
    by_cases h0 : x = 0
    · exact .inr (hz.2 h0)
    · refine .inl fun h2 => ?_
      rw [← hy] at h2
      exact hxo ⟨(hmem x).1 h2, h0⟩
end
end Go.Proofs.Yteeclobpajalmaa
