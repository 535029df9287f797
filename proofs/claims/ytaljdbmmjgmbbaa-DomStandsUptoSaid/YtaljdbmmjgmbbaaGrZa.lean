/- Two blocks changed about: successors, the search, reachability are changed about likewise; no program is in sight. No condition. -/
import Derived.Test.YtaljdbmmjgmbbaaGrL
namespace Go.Proofs.Ytaljdbmmjgmbbaa
set_option linter.unusedVariables false

/-- where a block is when a and b are changed about -/
def mv (a b x : Int) : Int := if x = a then b else if x = b then a else x
theorem mv_mv (a b x : Int) : mv a b (mv a b x) = x := by
  unfold mv
  by_cases h1 : x = a
  · subst h1
    by_cases h2 : b = x
    · simp [h2]
    · simp [h2]
  · by_cases h2 : x = b
    · subst h2; simp [h1]
    · simp [h1, h2]
theorem mv_inj {a b x y : Int} (h : mv a b x = mv a b y) : x = y := by rw [← mv_mv a b x, h, mv_mv]
theorem mv_in {a b x : Int} {n : Nat} (ha : 0 ≤ a ∧ a < n) (hb : 0 ≤ b ∧ b < n) : (0 ≤ mv a b x ∧ mv a b x < n) ↔ (0 ≤ x ∧ x < n) := by
  unfold mv
  split
  · rename_i h; subst h; simp [ha, hb]
  · split
    · rename_i h; subst h; simp [ha, hb]
    · exact Iff.rfl
theorem mv_zero {a b : Int} (ha : 0 < a) (hb : 0 < b) : mv a b 0 = 0 := by
  unfold mv
  rw [if_neg (by omega), if_neg (by omega)]
def setTo (x : Ins) (l : List Int) : Ins := { x with to := l }
def mvIns (a b : Int) (x : Ins) : Ins := setTo x (x.to.map (mv a b))
def mvAll (a b : Int) (bs : List (List Ins)) : List (List Ins) := bs.map fun c => c.map (mvIns a b)
/-- the function's blocks with a and b changed about -/
def swapS (a b : Nat) (bs : List (List Ins)) : List (List Ins) := ((mvAll a b bs).set a ((mvAll a b bs).getD b [])).set b ((mvAll a b bs).getD a [])
theorem swap_len (a b : Nat) (bs : List (List Ins)) : (swapS a b bs).length = bs.length := by simp [swapS, mvAll]
theorem swap_at {a b : Nat} {bs : List (List Ins)} (ha : a < bs.length) (hb : b < bs.length) {k : Nat} {x : List Ins} (hx : bs[k]? = some x) : (swapS a b bs)[(mv a b k).toNat]? = some (x.map (mvIns a b)) := by
  have hm : ∀ (k : Nat) x, bs[k]? = some x → (mvAll a b bs).getD k [] = x.map (mvIns a b) := fun k x h => by simp [mvAll, List.getD, h]
  have hk := (List.getElem?_eq_some_iff.1 hx).1
  unfold swapS mv
  by_cases h1 : (k : Int) = a
  · have e : k = a := by omega
    subst e
    rw [if_pos rfl, Int.toNat_natCast, List.getElem?_set_self (by simp [mvAll]; exact hb), hm k x hx]
  · rw [if_neg h1]
    by_cases h2 : (k : Int) = b
    · have e : k = b := by omega
      subst e
      rw [if_pos rfl, Int.toNat_natCast, List.getElem?_set_ne (by omega), List.getElem?_set_self (by simp [mvAll]; exact ha), hm k x hx]
    · rw [if_neg h2, Int.toNat_natCast, List.getElem?_set_ne (by omega), List.getElem?_set_ne (by omega)]
      simp [mvAll, hx]
theorem keep_mv {a b : Int} {n : Nat} (ha : 0 ≤ a ∧ a < n) (hb : 0 ≤ b ∧ b < n) (acc : List Int) (t : Int) : keepS n (acc.map (mv a b)) (mv a b t) = (keepS n acc t).map (mv a b) := by
  have hin := mv_in (x := t) ha hb
  have hmem : mv a b t ∈ acc.map (mv a b) ↔ t ∈ acc := by
    rw [List.mem_map]
    exact ⟨fun ⟨x, hx, e⟩ => by rw [← mv_inj e]; exact hx, fun h => ⟨t, h, rfl⟩⟩
  by_cases h : 0 ≤ t ∧ t < n ∧ t ∉ acc
  · rw [keepS_yes h, keepS_yes ⟨(hin.2 ⟨h.1, h.2.1⟩).1, (hin.2 ⟨h.1, h.2.1⟩).2, fun hm => h.2.2 (hmem.1 hm)⟩]
    simp
  · rw [keepS_no h, keepS_no fun h' => h ⟨(hin.1 ⟨h'.1, h'.2.1⟩).1, (hin.1 ⟨h'.1, h'.2.1⟩).2, fun hm => h'.2.2 (hmem.2 hm)⟩]
theorem succsL_mv {a b : Int} {n : Nat} (ha : 0 ≤ a ∧ a < n) (hb : 0 ≤ b ∧ b < n) (to_ : List Int) : succsL n (to_.map (mv a b)) = (succsL n to_).map (mv a b) := by
  have key : ∀ (l acc : List Int), (l.map (mv a b)).foldl (keepS n) (acc.map (mv a b)) = (l.foldl (keepS n) acc).map (mv a b) := by
    intro l
    induction l with
    | nil => intro acc; rfl
    | cons t l ih => intro acc; rw [List.map_cons, List.foldl_cons, List.foldl_cons, keep_mv ha hb, ih]
  exact key to_ []
theorem succsB_mv {a b : Int} {n : Nat} (ha : 0 ≤ a ∧ a < n) (hb : 0 ≤ b ∧ b < n) (x : List Ins) : succsB n (x.map (mvIns a b)) = (succsB n x).map (mv a b) := by
  unfold succsB
  rw [List.getLast?_map]
  cases x.getLast? with
  | none => rfl
  | some i =>
    show (if i.op = 31 ∨ i.op = 32 then succsL n (i.to.map (mv a b)) else []) = _
    by_cases h : i.op = 31 ∨ i.op = 32
    · rw [if_pos h, succsL_mv ha hb]; simp only [if_pos h]
    · rw [if_neg h]; simp only [if_neg h]; rfl
theorem succsF_mv {a b : Nat} {bs : List (List Ins)} (ha : a < bs.length) (hb : b < bs.length) (x : Int) : succsF (swapS a b bs) (mv a b x) = (succsF bs x).map (mv a b) := by
  have ha' : (0 : Int) ≤ a ∧ (a : Int) < bs.length := by omega
  have hb' : (0 : Int) ≤ b ∧ (b : Int) < bs.length := by omega
  have hin := mv_in (x := x) ha' hb'
  unfold succsF
  by_cases h0 : 0 ≤ x
  · obtain ⟨k, rfl⟩ := Int.eq_ofNat_of_zero_le h0
    by_cases hk : k < bs.length
    · obtain ⟨c, hc⟩ : ∃ c, bs[k]? = some c := ⟨_, List.getElem?_eq_getElem hk⟩
      rw [if_pos (hin.2 ⟨by omega, by omega⟩).1, if_pos h0, swap_at ha hb hc, Int.toNat_natCast, hc, swap_len]
      exact succsB_mv ha' hb' c
    · have e : mv a b (k : Int) = k := by unfold mv; rw [if_neg (by omega), if_neg (by omega)]
      rw [e, if_pos h0, if_pos h0, Int.toNat_natCast, List.getElem?_eq_none (by rw [swap_len]; omega), List.getElem?_eq_none (by omega)]
      rfl
  · have e : mv a b x = x := by unfold mv; rw [if_neg (by omega), if_neg (by omega)]
    rw [e, if_neg h0, if_neg h0]; rfl
/-- marks that are changed about likewise -/
def MarkMv (a b : Int) (n : Nat) (m m' : List Bool) : Prop := m.length = n ∧ m'.length = n ∧ ∀ x : Int, 0 ≤ x → x < n → m'[(mv a b x).toNat]? = m[x.toNat]?
theorem mark_set {a b : Int} {n : Nat} (ha : 0 ≤ a ∧ a < n) (hb : 0 ≤ b ∧ b < n) {m m' : List Bool} (h : MarkMv a b n m m') {t : Int} (h0 : 0 ≤ t) (h1 : t < n) : MarkMv a b n (m.set t.toNat true) (m'.set (mv a b t).toNat true) := by
  obtain ⟨g1, g2, g3⟩ := h
  refine ⟨by rw [List.length_set]; exact g1, by rw [List.length_set]; exact g2, fun x hx0 hx1 => ?_⟩
  have ht := (mv_in (x := t) ha hb).2 ⟨h0, h1⟩
  have hx := (mv_in (x := x) ha hb).2 ⟨hx0, hx1⟩
  by_cases e : t = x
  · subst e
    rw [List.getElem?_set_self (by omega), List.getElem?_set_self (by omega)]
  · have e' : mv a b t ≠ mv a b x := fun h => e (mv_inj h)
    rw [List.getElem?_set_ne (by omega), List.getElem?_set_ne (by omega)]
    exact g3 x hx0 hx1
theorem dfs_mv {a b : Int} {n : Nat} (ha : 0 ≤ a ∧ a < n) (hb : 0 ≤ b ∧ b < n) {sc sc' : Int → List Int} (hs : ∀ x, SuccOk n (sc x)) (hsc : ∀ x, sc' (mv a b x) = (sc x).map (mv a b)) (st : List (Int × List Int)) (m : List Bool) (out : List Int) :
    DfsOk n st m out → ∀ m', MarkMv a b n m m' → dfs sc' (st.map fun p => (mv a b p.1, p.2.map (mv a b))) m' (out.map (mv a b)) = (dfs sc st m out).map (mv a b) := by
  induction st, m, out using dfs.induct (succ := sc) with
  | case1 m out => intro _ m' _; rw [dfs_nil, List.map_nil, dfs_nil]
  | case2 m out x st ih =>
    intro h m' hm
    rw [dfs_pop, List.map_cons, List.map_nil, dfs_pop, ← ih (dfsOk_pop h) m' hm, List.map_append]
    rfl
  | case3 m out x t ts st hmk ih =>
    intro h m' hm
    have ht := (h.inn _ (List.mem_cons_self ..)).2 t (List.mem_cons_self ..)
    rw [dfs_push hmk, ← ih (dfsOk_push h hmk (hs t).bound) _ (mark_set ha hb hm ht.1 ht.2), List.map_cons, List.map_cons, dfs_push (by rw [hm.2.2 t ht.1 ht.2]; exact hmk), hsc]
    rfl
  | case4 m out x t ts st hmk ih =>
    intro h m' hm
    have ht := (h.inn _ (List.mem_cons_self ..)).2 t (List.mem_cons_self ..)
    rw [dfs_skip hmk, ← ih (dfsOk_skip h) m' hm, List.map_cons, List.map_cons, dfs_skip (by rw [hm.2.2 t ht.1 ht.2]; exact hmk)]
    rfl
theorem order_mv {a b : Nat} {bs : List (List Ins)} (ha : 0 < a ∧ a < bs.length) (hb : 0 < b ∧ b < bs.length) : orderF (swapS a b bs) = (orderF bs).map (mv a b) := by
  have ha' : (0 : Int) ≤ a ∧ (a : Int) < bs.length := by omega
  have hb' : (0 : Int) ≤ b ∧ (b : Int) < bs.length := by omega
  have hn : bs.length ≠ 0 := by omega
  have hz : mv (a : Int) b 0 = 0 := mv_zero (by omega) (by omega)
  unfold orderF
  rw [swap_len, if_neg hn, if_neg hn, List.map_reverse]
  congr 1
  have h0 := succsF_mv ha.2 hb.2 (bs := bs) 0
  rw [hz] at h0
  have hmk : MarkMv a b bs.length ((List.replicate bs.length false).set 0 true) ((List.replicate bs.length false).set 0 true) := by
    refine ⟨by simp, by simp, fun x hx0 hx1 => ?_⟩
    have hx := (mv_in (x := x) ha' hb').2 ⟨hx0, hx1⟩
    by_cases e : x = 0
    · subst e; rw [hz]
    · have e' : mv (a : Int) b x ≠ 0 := fun h => e (mv_inj (h.trans hz.symm))
      rw [List.getElem?_set_ne (by omega), List.getElem?_set_ne (by omega), List.getElem?_replicate, List.getElem?_replicate, if_pos (by omega), if_pos (by omega)]
  have := dfs_mv ha' hb' (succsF_ok bs) (fun x => succsF_mv ha.2 hb.2 x) [(0, succsF bs 0)] _ [] (dfsOk_start (by omega) (succsF_ok bs 0).bound) _ hmk
  rw [← this, List.map_cons, List.map_nil, List.map_nil, hz, h0]
theorem reach_mv {a b : Nat} {bs : List (List Ins)} (ha : 0 < a ∧ a < bs.length) (hb : 0 < b ∧ b < bs.length) {k : Nat} (hk : k < bs.length) : (reachF (swapS a b bs))[(mv a b k).toNat]? = (reachF bs)[k]? := by
  have ha' : (0 : Int) ≤ a ∧ (a : Int) < bs.length := by omega
  have hb' : (0 : Int) ≤ b ∧ (b : Int) < bs.length := by omega
  have hx := (mv_in (x := (k : Int)) ha' hb').2 ⟨by omega, by omega⟩
  rw [reach_at _ _ hk, reach_at _ _ (by rw [swap_len]; omega), order_mv ha hb, Int.toNat_of_nonneg hx.1]
  congr 1
  have : mv (a : Int) b k ∈ (orderF bs).map (mv a b) ↔ (k : Int) ∈ orderF bs := by
    rw [List.mem_map]
    exact ⟨fun ⟨x, hx, e⟩ => by rw [← mv_inj e]; exact hx, fun h => ⟨_, h, rfl⟩⟩
  simp only [this]
end Go.Proofs.Ytaljdbmmjgmbbaa
