/- latheref02.Copy. No condition but sizes. -/
import Derived.Test.YtamjcafjdioidaaIrX
import Derived.Test.YtamjcafjdioidaaIrY
import Derived.Deep.RegionLaw
import Derived.StillTailTactics
namespace Go.Proofs.Ytamjcafjdioidaa
open Go.RowKit
set_option linter.unusedSimpArgs false
set_option linter.unusedVariables false

theorem run_append_zero {P : Program} (w : World) (base : Nat) (t ty e : TypeId) (i : TypeInfo) (size : Nat) (ht : P.underlying t = some (.slice e)) (hi : P.info? e = some i)
    (v : Value) (n c : Nat) (ao : Option Addr) (xs : List Value) (hown : w.ownsRow base e size v n xs) :
    (Builtin.append_ #[t, t] ty #[v, .slice ao 0 c]).run P w = .ok v w := by
  cases ao with
  | none => exact run_append_none_any w base t ty e i size ht hi v n c xs hown
  | some ad =>
    rcases hown.2 with ⟨rfl, rfl⟩ | ⟨g, cap, cur, rfl, _, _, hnc, _⟩
    · simp [Builtin.append_, run_underlying ht, sizeOf, typeInfo, hi, Builtin.lenOf, Builtin.firstCells, loadCells, storeCells, loadCellsFrom]
    · simp [Builtin.append_, run_underlying ht, sizeOf, typeInfo, hi, Builtin.lenOf, Builtin.firstCells, hnc, loadCells, storeCells, loadCellsFrom]
theorem step_append_any {P : Program} {w : World} {ops : Array Oper} {o : Oper} {a : Act} {K : Act → World → Prop} {Q : Exit → Act → World → Prop} {E : Prop} (hgd : o.guard = none) (s x : Operand) (t : TypeId)
    (ho : o.op = .call { callee := .builtin .append, args := #[s, x], argTypes := #[t, t] })
    (base : Nat) (e : TypeId) (i : TypeInfo) (z : Value) (size bytes : Nat) (ht : P.underlying t = some (.slice e)) (hi : P.info? e = some i) (hz : i.zero = some z)
    (hsize : i.size = size) (hby : i.bytes = bytes) (hzs : z.cells.size = size) (hsz : 0 < size)
    (v : Value) (n : Nat) (xs : List Value) (hs : a.eval s = v) (hown : w.ownsRow base e size v n xs)
    (ao : Option Addr) (m c : Nat) (news : List Value) (hx : a.eval x = .slice ao m c) (hl : news.length = m * size) (hnone : ao = none → m = 0)
    (hnews : ∀ ad, ao = some ad → ∀ j u, news[j]? = some u → w.cell? (ad.add j) = some u) (h1 : ∀ u ∈ news, u.oneCell' = true)
    (h63 : n + m ≤ maxLen) (hbytes : (n + m) * bytes ≤ 140737488355328) (hbase : base ≤ w.heap.size)
    (h : ∀ v' w', w'.ownsRow base e size v' (n + m) (xs ++ news) → w.grownBy w' v.ownBlock → K (a.put o.dst v') w') :
    if Region.wanted o (yielded ops a.tmps) = true then Oper.wp P o a w K Q else E := by
  by_cases hm : 0 < m
  · cases ao with
    | none => have := hnone rfl; omega
    | some ad => exact step_append_lies w hgd s x t ho base e i z size bytes ht hi hz hsize hby hzs hsz v n xs hs hown ad m c news hx hl (hnews ad rfl) h1 hm h63 hbytes hbase w.heap.size rfl (fun g cap w' g1 g2 _ _ => h _ w' g1 g2)
  · obtain rfl : m = 0 := by omega
    have hnil : news = [] := List.eq_nil_of_length_eq_zero (by simpa using hl)
    subst hnil
    have hw : Region.wanted o (yielded ops a.tmps) = true := by simp [Region.wanted, hgd]
    rw [if_pos hw]
    have hrun := run_append_zero (P := P) w base t o.type e i size ht hi v n c ao xs hown
    unfold Oper.wp
    simp [execOp, ho, resolve, invoke, builtin, hs, hx, hrun, Result.andThen]
    exact h v w (by simpa using hown) (World.grownBy.refl _ _)

def vc (x : Vr) : List Value := [.string x.name, .int .i64 x.size]
structure OwnR (w : World) (B : Nat) (v : Value) (l : List Vr) : Prop where
  row : w.ownsRow B 109 2 v l.length (l.flatMap vc)
  ok : ∀ x, x ∈ l → I64 x.size ∧ x.name.size ≤ maxLen
structure OwnX (w : World) (B : Nat) (v : Value) (l : List Ext) : Prop where
  body : ∃ ess : List (List Value), ess.length = l.length ∧ w.ownsRow B 84 3 v l.length ess.flatten ∧ ∀ (i : Nat) es x, ess[i]? = some es → l[i]? = some x → ∃ c, es = [.string x.name, c, .int .i64 x.ret] ∧ OwnI w B c x.params ∧ (I64 x.ret ∧ x.name.size ≤ maxLen)
structure OwnF (w : World) (B : Nat) (v : Value) (l : List Fun) : Prop where
  body : ∃ ess : List (List Value), ess.length = l.length ∧ w.ownsRow B 32 4 v l.length ess.flatten ∧ ∀ (i : Nat) es x, ess[i]? = some es → l[i]? = some x → ∃ c d, es = [.string x.name, c, .int .i64 x.ret, d] ∧ OwnI w B c x.params ∧ OwnK w B d x.blocks ∧ (I64 x.ret ∧ x.name.size ≤ maxLen)
section
variable {w w' : World} {B B' : Nat} {v : Value}
theorem OwnR.kept {l : List Vr} (h : OwnR w B v l) (hk : ∀ k, B ≤ k → k < w.heap.size → w'.heap[k]? = w.heap[k]?) : OwnR w' B v l := ⟨row_kept h.row fun k hv => hk k (row_lt h.row hv).1 (row_lt h.row hv).2.1, h.ok⟩
theorem OwnX.kept {l : List Ext} (h : OwnX w B v l) (hk : ∀ k, B ≤ k → k < w.heap.size → w'.heap[k]? = w.heap[k]?) : OwnX w' B v l := by
  obtain ⟨ess, h1, h2, h3⟩ := h
  refine ⟨ess, h1, row_kept h2 fun k hv => hk k (row_lt h2 hv).1 (row_lt h2 hv).2.1, fun i es x he hx => ?_⟩
  obtain ⟨c, e, h5, h6⟩ := h3 i es x he hx
  exact ⟨c, e, h5.kept hk, h6⟩
theorem OwnF.kept {l : List Fun} (h : OwnF w B v l) (hk : ∀ k, B ≤ k → k < w.heap.size → w'.heap[k]? = w.heap[k]?) : OwnF w' B v l := by
  obtain ⟨ess, h1, h2, h3⟩ := h
  refine ⟨ess, h1, row_kept h2 fun k hv => hk k (row_lt h2 hv).1 (row_lt h2 hv).2.1, fun i es x he hx => ?_⟩
  obtain ⟨c, d, e, h4, h5, h6⟩ := h3 i es x he hx
  exact ⟨c, d, e, h4.kept hk, h5.kept hk, h6⟩
theorem OwnK.but {T : TypeId} {bs : List (List Ins)} (hb : But T w w') (h0 : 36 ≠ T) (h1 : 39 ≠ T) (h2 : 42 ≠ T) (h3 : 3 ≠ T) (h : OwnK w B v bs) : OwnK w' B v bs := by
  obtain ⟨xs, g1, g2, g3⟩ := h
  exact ⟨xs, g1, hb.row h0 g2, fun i x b hx hb' => (g3 i x b hx hb').but hb h1 h2 h3⟩
theorem OwnX.but {T : TypeId} {l : List Ext} (hb : But T w w') (h1 : 84 ≠ T) (h3 : 3 ≠ T) (h : OwnX w B v l) : OwnX w' B v l := by
  obtain ⟨ess, g1, g2, g3⟩ := h
  refine ⟨ess, g1, hb.row h1 g2, fun i es x he hx => ?_⟩
  obtain ⟨c, e, h5, h6⟩ := g3 i es x he hx
  exact ⟨c, e, ⟨hb.row h3 h5.row, h5.ok⟩, h6⟩
theorem OwnX.nil_ : OwnX w B (.slice none 0 0) [] := ⟨[], rfl, ⟨rfl, .inl ⟨rfl, rfl⟩⟩, fun i es x h => by simp at h⟩
theorem OwnF.nil_ : OwnF w B (.slice none 0 0) [] := ⟨[], rfl, ⟨rfl, .inl ⟨rfl, rfl⟩⟩, fun i es x h => by simp at h⟩
theorem OwnX.more {l : List Ext} (h : OwnX w B v l) : ∃ xs, w.ownsRow B 84 3 v l.length xs ∧ ∀ (x : Ext) (c : Value) (w' : World) (v' : Value), OwnI w B c x.params → (I64 x.ret ∧ x.name.size ≤ maxLen) →
    w'.ownsRow B 84 3 v' (l.length + 1) (xs ++ [.string x.name, c, .int .i64 x.ret]) → (w.alloc (.cells #[.string x.name, c, .int .i64 x.ret] 84)).grownBy w' v.ownBlock → OwnX w' B v' (l ++ [x]) := by
  obtain ⟨ess, h1, h2, h3⟩ := h
  refine ⟨ess.flatten, h2, fun x c w' v' hc hx ho hg => ?_⟩
  have hb := But.grown h2 hg
  refine ⟨ess ++ [[.string x.name, c, .int .i64 x.ret]], by simp [h1], by simpa [List.flatten_append] using ho, fun i es y he hy => ?_⟩
  rcases Nat.lt_or_ge i ess.length with hi | hi
  · rw [List.getElem?_append_left hi] at he
    rw [List.getElem?_append_left (by omega)] at hy
    obtain ⟨c', e, h5, h6⟩ := h3 i es y he hy
    exact ⟨c', e, ⟨hb.row (by decide) h5.row, h5.ok⟩, h6⟩
  · rw [List.getElem?_append_right hi] at he
    rw [List.getElem?_append_right (by omega)] at hy
    have e0 : i - ess.length = 0 := by have := (List.getElem?_eq_some_iff.1 he).1; simp at this; omega
    rw [e0] at he
    rw [show i - l.length = 0 by omega] at hy
    cases he; cases hy
    exact ⟨c, rfl, ⟨hb.row (by decide) hc.row, hc.ok⟩, hx⟩
theorem OwnF.more {l : List Fun} (h : OwnF w B v l) : ∃ xs, w.ownsRow B 32 4 v l.length xs ∧ ∀ (x : Fun) (c d : Value) (w1 w' : World) (v' : Value), Below w.heap.size w w1 → OwnI w1 B c x.params → OwnK w1 B d x.blocks → (I64 x.ret ∧ x.name.size ≤ maxLen) →
    w'.ownsRow B 32 4 v' (l.length + 1) (xs ++ [.string x.name, c, .int .i64 x.ret, d]) → (w1.alloc (.cells #[.string x.name, c, .int .i64 x.ret, d] 32)).grownBy w' v.ownBlock → OwnF w' B v' (l ++ [x]) := by
  obtain ⟨ess, h1, h2, h3⟩ := h
  refine ⟨ess.flatten, h2, fun x c d w1 w' v' hw1 hc hd hx ho hg => ?_⟩
  have h2' := row_kept h2 (w' := w1) fun k hk => hw1.block k (row_lt h2 hk).2.1
  have hb := But.grown h2' hg
  refine ⟨ess ++ [[.string x.name, c, .int .i64 x.ret, d]], by simp [h1], by simpa [List.flatten_append] using ho, fun i es y he hy => ?_⟩
  rcases Nat.lt_or_ge i ess.length with hi | hi
  · rw [List.getElem?_append_left hi] at he
    rw [List.getElem?_append_left (by omega)] at hy
    obtain ⟨c', d', e, h4, h5, h6⟩ := h3 i es y he hy
    have h4' := h4.kept (w' := w1) fun k _ hk => hw1.block k hk
    have h5' := h5.kept (w' := w1) fun k _ hk => hw1.block k hk
    exact ⟨c', d', e, ⟨hb.row (by decide) h4'.row, h4'.ok⟩, h5'.but hb (by decide) (by decide) (by decide) (by decide), h6⟩
  · rw [List.getElem?_append_right hi] at he
    rw [List.getElem?_append_right (by omega)] at hy
    have e0 : i - ess.length = 0 := by have := (List.getElem?_eq_some_iff.1 he).1; simp at this; omega
    rw [e0] at he
    rw [show i - l.length = 0 by omega] at hy
    cases he; cases hy
    exact ⟨c, d, rfl, ⟨hb.row (by decide) hc.row, hc.ok⟩, hd.but hb (by decide) (by decide) (by decide) (by decide), hx⟩
theorem OwnR.rep {l : List Vr} (h : OwnR w B v l) : RVrs.rep w w.heap.size [v] l := by
  refine Own.rep (R := RVr) (B := 0) (base := B) (T := 109) ⟨l.map vc, by simp, ?_, fun i es y h1 h2 => ?_⟩ (Nat.zero_le _)
  · rw [← List.flatMap_def]; exact h.row
  · rw [List.getElem?_map, h2] at h1
    cases h1
    exact ⟨rfl, rfl, h.ok y (List.mem_of_getElem? h2)⟩
theorem OwnX.rep {l : List Ext} (h : OwnX w B v l) : RExts.rep w w.heap.size [v] l := by
  obtain ⟨ess, h1, h2, h3⟩ := h
  refine Own.rep (R := RExt) (B := w.heap.size) (base := B) (T := 84) ⟨ess, h1, h2, fun i es y he hy => ?_⟩ (Nat.le_refl _)
  obtain ⟨c, e, h5, h6⟩ := h3 i es y he hy
  subst e
  exact ⟨rfl, c, rfl, h5.rep, h6⟩
theorem OwnF.rep {l : List Fun} (h : OwnF w B v l) : RFuns.rep w w.heap.size [v] l := by
  obtain ⟨ess, h1, h2, h3⟩ := h
  refine Own.rep (R := RFun) (B := w.heap.size) (base := B) (T := 32) ⟨ess, h1, h2, fun i es y he hy => ?_⟩ (Nat.le_refl _)
  obtain ⟨c, d, e, h4, h5, h6⟩ := h3 i es y he hy
  subst e
  exact ⟨rfl, c, d, rfl, h4.rep, h5.rep, h6⟩
end
end Go.Proofs.Ytamjcafjdioidaa
