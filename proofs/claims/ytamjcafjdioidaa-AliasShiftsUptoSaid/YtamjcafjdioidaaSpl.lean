/- A function's tree of which the first block's code is taken in hand: appended to, stored back. No condition. -/
import Derived.Test.YtamjcafjdioidaaCq
namespace Go.Proofs.Ytamjcafjdioidaa
open Go.RowKit
set_option linter.unusedVariables false

theorem row_full {w : World} {base : Nat} {e : TypeId} {size : Nat} {v : Value} {n : Nat} {xs : List Value} (h : w.ownsRow base e size v n xs) (hn : 0 < n) : ∃ g cap, v = .slice (some ⟨g, 0, none⟩) n cap ∧ n ≤ cap ∧ cap ≤ 9223372036854775807 := by
  rcases h.2 with ⟨_, h0⟩ | ⟨g, cap, cur, hv, hb, hg, h1, h2, _⟩
  · omega
  · exact ⟨g, cap, hv, h1, h2⟩
theorem OwnCd.toC {w : World} {B : Nat} {l : List Ins} {v : Value} {es : List (Value × Value)} (h : OwnCd w B v l es) : OwnC w B v l := by
  refine ⟨List.zipWith (fun (x : Ins) (e : Value × Value) => insC x e.1 e.2) l es, by simp [h.len], h.row, fun i es' x he hx => ?_⟩
  rw [List.getElem?_zipWith, hx] at he
  cases hq : es[i]? with
  | none => rw [hq] at he; cases he
  | some e =>
    rw [hq] at he
    cases he
    obtain ⟨g1, g2, g3⟩ := h.inn i x e hx hq
    exact ⟨_, _, rfl, g1, g2, g3⟩
/-- the blocks' row lies in block gB; its first block's code is v, with the instructions l; the others are rest -/
structure Spl (w : World) (L gB n C : Nat) (v : Value) (l : List Ins) (rest : List (List Ins)) : Prop where
  code : OwnC w L v l
  rows : ∃ u xr, (∃ A m c, u = Value.slice A m c) ∧ w.ownsRow L 36 1 (.slice (some ⟨gB, 0, none⟩) n C) n (u :: xr) ∧ ∀ (i : Nat) x b, xr[i]? = some x → rest[i]? = some b → OwnC w L x b ∧ ∀ k, x.ownBlock = some k → v.ownBlock ≠ some k
  len : n = rest.length + 1
section
variable {w w' : World} {L gB n C : Nat} {v : Value} {l : List Ins} {rest : List (List Ins)}
theorem Spl.kept (h : Spl w L gB n C v l rest) (hk : ∀ k, L ≤ k → k < w.heap.size → w'.heap[k]? = w.heap[k]?) : Spl w' L gB n C v l rest := by
  obtain ⟨h1, ⟨u, xr, hu, h2, h3⟩, h4⟩ := h
  exact ⟨h1.kept hk, ⟨u, xr, hu, row_kept h2 fun k hv => hk k (row_lt h2 hv).1 (row_lt h2 hv).2.1, fun i x b hx hb => ⟨(h3 i x b hx hb).1.kept hk, (h3 i x b hx hb).2⟩⟩, h4⟩
theorem Spl.below (h : Spl w L gB n C v l rest) (hb : Below w.heap.size w w') : Spl w' L gB n C v l rest := h.kept fun k _ hk => hb.block k hk
/-- the blocks' row -/
theorem Spl.at_ (h : Spl w L gB n C v l rest) : L ≤ gB ∧ gB < w.heap.size ∧ ∃ c, w.heap[gB]? = some (.cells c 36 (0, 0)) := by
  obtain ⟨_, ⟨u, xr, _, h2, _⟩, _⟩ := h
  exact row_lt h2 rfl
/-- instructions appended -/
theorem OwnC.app {l news : List Ins} {ns : List (Value × Value)} {w2 : World} {v' : Value} (h : OwnC w L v l) (hn : ns.length = news.length)
    (hkeep : ∀ (k : Nat) (c : Array Value) (t : TypeId) (f : Nat × Nat), w.heap[k]? = some (Obj.cells c t f) → t ≠ 39 → w2.heap[k]? = w.heap[k]?) (hbut : But 39 w2 w')
    (hin : ∀ (i : Nat) x e, news[i]? = some x → ns[i]? = some e → OwnV w2 L e.1 x.args ∧ OwnI w2 L e.2 x.to ∧ InsOk x) {xs : List Value} (hx : w.ownsRow L 39 7 v l.length xs)
    (ho : w'.ownsRow L 39 7 v' (l.length + news.length) (xs ++ cellsOf news ns)) : OwnC w' L v' (l ++ news) := by
  obtain ⟨ess, h1, h2, h3⟩ := h
  have he : xs = ess.flatten := by
    rcases h2.2 with ⟨e1, e2⟩ | ⟨g, cap, cur, e1, -, hh, -, -, -, ht⟩
    · have a := hx.1
      have b := h2.1
      rw [List.eq_nil_of_length_eq_zero (by rw [a, e2] : xs.length = 0), List.eq_nil_of_length_eq_zero (by rw [b, e2] : ess.flatten.length = 0)]
    · subst e1
      rcases hx.2 with ⟨e3, -⟩ | ⟨g', cap', cur', e3, -, hh', -, -, -, ht'⟩
      · cases e3
      · cases e3
        rw [hh] at hh'
        cases hh'
        rw [← ht, ← ht']
  subst he
  refine ⟨ess ++ List.zipWith (fun x e => insC x e.1 e.2) news ns, by simp [h1, hn], ?_, ?_⟩
  · rw [List.length_append, List.flatten_append]
    exact ho
  · intro i es x hi hxx
    rcases Nat.lt_or_ge i ess.length with hlt | hge
    · rw [List.getElem?_append_left hlt] at hi
      rw [List.getElem?_append_left (by omega)] at hxx
      obtain ⟨c, d, e, h4, h5, h6⟩ := h3 i es x hi hxx
      refine ⟨c, d, e, ⟨row_kept h4.row fun k hk => ?_, h4.ok⟩, ⟨row_kept h5.row fun k hk => ?_, h5.ok⟩, h6⟩
      · obtain ⟨-, -, cc, hc⟩ := row_lt h4.row hk
        have e1 := hkeep k cc _ _ hc (by decide)
        exact (hbut k cc _ _ (e1.trans hc) (by decide)).trans e1
      · obtain ⟨-, -, cc, hc⟩ := row_lt h5.row hk
        have e1 := hkeep k cc _ _ hc (by decide)
        exact (hbut k cc _ _ (e1.trans hc) (by decide)).trans e1
    · rw [List.getElem?_append_right hge] at hi
      rw [List.getElem?_append_right (by omega), ← h1] at hxx
      have hlt2 : i - ess.length < ns.length := by have := (List.getElem?_eq_some_iff.1 hxx).1; omega
      have hns : ns[i - ess.length]? = some (ns[i - ess.length]'hlt2) := List.getElem?_eq_getElem hlt2
      rw [List.getElem?_zipWith, hxx, hns] at hi
      cases hi
      obtain ⟨h4, h5, h6⟩ := hin _ _ _ hxx hns
      exact ⟨_, _, rfl, ⟨hbut.row (by decide) h4.row, h4.ok⟩, ⟨hbut.row (by decide) h5.row, h5.ok⟩, h6⟩
theorem Spl.app {news : List Ins} {ns : List (Value × Value)} {w2 : World} {g' C' : Nat} (h : Spl w L gB n C v l rest) (hb : Below w.heap.size w w2) (hg : w2.grownBy w' v.ownBlock) (hn : ns.length = news.length)
    (hin : ∀ (i : Nat) x e, news[i]? = some x → ns[i]? = some e → OwnV w2 L e.1 x.args ∧ OwnI w2 L e.2 x.to ∧ InsOk x) {xs : List Value} (hx : w.ownsRow L 39 7 v l.length xs) {m : Nat}
    (ho : w'.ownsRow L 39 7 (.slice (some ⟨g', 0, none⟩) m C') (l.length + news.length) (xs ++ cellsOf news ns)) (hl : v.ownBlock = some g' ∨ w.heap.size ≤ g') : Spl w' L gB n C (.slice (some ⟨g', 0, none⟩) m C') (l ++ news) rest := by
  have hkeep : ∀ (k : Nat) (c : Array Value) (t : TypeId) (f : Nat × Nat), w.heap[k]? = some (Obj.cells c t f) → t ≠ 39 → w2.heap[k]? = w.heap[k]? := fun k c t f hk _ => hb.block k (Array.getElem?_eq_some_iff.1 hk).1
  have hx2 : w2.ownsRow L 39 7 v l.length xs := row_kept hx fun k hk => hb.block k (row_lt hx hk).2.1
  have hbut : But 39 w2 w' := fun k c t f hk ht => by
    refine hg.block k (Array.getElem?_eq_some_iff.1 hk).1 fun e => ?_
    obtain ⟨-, -, c', hc'⟩ := row_lt hx2 e.symm
    rw [hk] at hc'
    cases hc'
    exact ht rfl
  obtain ⟨h1, ⟨u, xr, hu, h2, h3⟩, h4⟩ := h
  refine ⟨h1.app hn hkeep hbut hin hx ho, ⟨u, xr, hu, ?_, fun i x b hxx hbb => ?_⟩, h4⟩
  · refine row_kept h2 fun k hk => ?_
    obtain ⟨-, h5, c, hc⟩ := row_lt h2 hk
    have e1 := hb.block k h5
    exact (hbut k c _ _ (e1.trans hc) (by decide)).trans e1
  · obtain ⟨h5, h6⟩ := h3 i x b hxx hbb
    have h7 : ∀ k, x.ownBlock = some k → k < w.heap.size := fun k hk => by
      obtain ⟨ess, -, hr, -⟩ := h5
      exact (row_lt hr hk).2.1
    refine ⟨?_, fun k hk e => ?_⟩
    · obtain ⟨ess, g1, g2, g3⟩ := h5
      refine ⟨ess, g1, row_kept g2 fun k hk => ?_, fun i es y he hy => ?_⟩
      · have e1 := hb.block k (row_lt g2 hk).2.1
        exact (hg.block k (by rw [← Nat.not_le]; have := hb.size; have := (row_lt g2 hk).2.1; omega) (fun e => h6 k hk e.symm)).trans e1
      · obtain ⟨c, d, e, g4, g5, g6⟩ := g3 i es y he hy
        refine ⟨c, d, e, ⟨row_kept g4.row fun k hk => ?_, g4.ok⟩, ⟨row_kept g5.row fun k hk => ?_, g5.ok⟩, g6⟩
        · obtain ⟨-, -, cc, hc⟩ := row_lt g4.row hk
          have e1 := hkeep k cc _ _ hc (by decide)
          exact (hbut k cc _ _ (e1.trans hc) (by decide)).trans e1
        · obtain ⟨-, -, cc, hc⟩ := row_lt g5.row hk
          have e1 := hkeep k cc _ _ hc (by decide)
          exact (hbut k cc _ _ (e1.trans hc) (by decide)).trans e1
    · have e' : g' = k := by simpa [Value.ownBlock] using e
      subst e'
      rcases hl with hl | hl
      · exact h6 _ hk hl
      · have := h7 _ hk
        omega
/-- stored back -/
theorem Spl.shut (h : Spl w L gB n C v l rest) (hv : ∃ A m c, v = Value.slice A m c) : OwnK (w.setCell ⟨gB, 0, none⟩ v) L (.slice (some ⟨gB, 0, none⟩) n C) (l :: rest) ∧ Spl (w.setCell ⟨gB, 0, none⟩ v) L gB n C v l rest := by
  obtain ⟨h1, ⟨u, xr, -, h2, h3⟩, h4⟩ := h
  obtain ⟨hL, hlt, cc, hcc⟩ := row_lt h2 rfl
  have hbut : But 36 w (w.setCell ⟨gB, 0, none⟩ v) := fun k c t f hk ht => by
    refine Below.heap_setCell w ⟨gB, 0, none⟩ v k fun e => ?_
    have e' : k = gB := e
    subst e'
    rw [hcc] at hk
    cases hk
    exact ht rfl
  have h2' : (w.setCell ⟨gB, 0, none⟩ v).ownsRow L 36 1 (.slice (some ⟨gB, 0, none⟩) n C) n (v :: xr) := by
    have := (World.ownsRow.stored h2 0 v).1
    simpa using this
  have hc' := h1.but hbut (by decide) (by decide) (by decide)
  have hr' : ∀ (i : Nat) x b, xr[i]? = some x → rest[i]? = some b → OwnC (w.setCell ⟨gB, 0, none⟩ v) L x b ∧ ∀ k, x.ownBlock = some k → v.ownBlock ≠ some k := fun i x b hx hb => ⟨(h3 i x b hx hb).1.but hbut (by decide) (by decide) (by decide), (h3 i x b hx hb).2⟩
  refine ⟨⟨v :: xr, ?_, ?_, ?_⟩, hc', ⟨v, xr, hv, h2', hr'⟩, h4⟩
  · have := h2.1
    simp only [List.length_cons] at this ⊢
    omega
  · rw [List.length_cons, ← h4]
    exact h2'
  · intro i x b hx hb
    cases i with
    | zero => cases hx; cases hb; exact hc'
    | succ i => exact (hr' i x b (by simpa using hx) (by simpa using hb)).1
/-- taken in hand: without the first block's last instruction -/
theorem Spl.opened {d : Value} {l0 : List Ins} {e : Ins} (h : OwnK2 w L d ((l0 ++ [e]) :: rest)) : ∃ gB C kc Cc c t, d = .slice (some ⟨gB, 0, none⟩) (rest.length + 1) C ∧ w.cell? ⟨gB, 0, none⟩ = some (.slice (some ⟨kc, 0, none⟩) (l0.length + 1) Cc) ∧ w.frozen? ⟨gB, 0, none⟩ = false ∧
    (∀ (j : Nat) u, (insC e c t)[j]? = some u → w.cell? ⟨kc, l0.length * 7 + j, none⟩ = some u) ∧ OwnV w L c e.args ∧ OwnI w L t e.to ∧ InsOk e ∧ l0.length + 1 ≤ Cc ∧ Cc ≤ 9223372036854775807 ∧ L ≤ kc ∧ kc < w.heap.size ∧ kc ≠ gB ∧ rest.length + 1 ≤ 9223372036854775807 ∧
    Spl w L gB (rest.length + 1) C (.slice (some ⟨kc, 0, none⟩) l0.length Cc) l0 rest := by
  obtain ⟨xs, ess, h⟩ := h
  obtain ⟨x0, xr, rfl⟩ : ∃ x0 xr, xs = x0 :: xr := by
    have := h.lenx
    match xs, this with
    | [], h => cases h
    | x0 :: xr, _ => exact ⟨x0, xr, rfl⟩
  obtain ⟨e0, er, rfl⟩ : ∃ e0 er, ess = e0 :: er := by
    have := h.lene
    match ess, this with
    | [], h => cases h
    | x0 :: xr, _ => exact ⟨x0, xr, rfl⟩
  have hc := h.inn 0 x0 (l0 ++ [e]) e0 rfl rfl rfl
  have hrow := h.row
  obtain ⟨gB, C, rfl, hbm, hbx⟩ := row_full hrow (by simp)
  obtain ⟨kc, Cc, rfl, hcm, hcx⟩ := row_full hc.row (by simp)
  have hlen := hc.len
  rw [List.length_append, List.length_singleton] at hlen
  have hlt : l0.length < e0.length := by omega
  have hee : e0[l0.length]? = some (e0[l0.length]'hlt) := List.getElem?_eq_getElem hlt
  obtain ⟨c, t, hct⟩ : ∃ c t, e0[l0.length]'hlt = (c, t) := ⟨_, _, rfl⟩
  rw [hct] at hee
  have hin := hc.inn l0.length e (c, t) (by simp) hee
  have he0 : e0 = e0.take l0.length ++ [(c, t)] := by
    have := List.take_append_drop l0.length e0
    conv => lhs; rw [← this]
    congr 1
    have hd : (e0.drop l0.length).length = 1 := by rw [List.length_drop]; omega
    match hm : e0.drop l0.length, hd with
    | [y], _ =>
      have h9 : (e0.drop l0.length)[0]? = some y := by rw [hm]; rfl
      rw [List.getElem?_drop, Nat.add_zero, hee] at h9
      cases h9
      rfl
  have htl : (e0.take l0.length).length = l0.length := by rw [List.length_take]; omega
  have hcells : cellsOf (l0 ++ [e]) e0 = cellsOf l0 (e0.take l0.length) ++ insC e c t := by
    conv => lhs; rw [he0]
    exact cellsOf_snoc htl _ _ _
  have hcl : (cellsOf l0 (e0.take l0.length)).length = l0.length * 7 := by
    have := hc.row.1
    rw [hcells] at this
    simp only [List.length_append, List.length_singleton] at this
    have h7 : (insC e c t).length = 7 := rfl
    omega
  obtain ⟨hkL, hkw, cc, hcc⟩ := row_lt hc.row rfl
  obtain ⟨hgL, hgw, cg, hcg⟩ := row_lt hrow rfl
  have hne : kc ≠ gB := by
    intro e1
    subst e1
    rw [hcg] at hcc
    cases hcc
  simp only [List.length_append, List.length_singleton] at hcm
  refine ⟨gB, C, kc, Cc, c, t, by rw [List.length_cons], ?_, ?_, ?_, hin.1, hin.2.1, hin.2.2, ?_, ?_, hkL, hkw, hne, ?_, ?_, ⟨.slice (some ⟨kc, 0, none⟩) (l0 ++ [e]).length Cc, xr, ⟨_, _, _, rfl⟩, ?_, ?_⟩, rfl⟩
  · have := World.ownsRow.cellAt hrow 0 (by simp)
    rw [this]
    simp
  · exact World.ownsRow.frozenAt hrow 0
  · intro j u hu
    have h7 : j < 7 := (List.getElem?_eq_some_iff.1 hu).1
    have := World.ownsRow.cellAt hc.row (l0.length * 7 + j) (by simp; omega)
    rw [this, hcells, List.getElem?_append_right (by omega), hcl, Nat.add_sub_cancel_left]
    exact hu
  · exact hcm
  · exact hcx
  · simp only [List.length_cons] at hbm
    omega
  · refine ⟨List.zipWith (fun x e => insC x e.1 e.2) l0 (e0.take l0.length), by simp [htl], ?_, ?_⟩
    · refine ⟨by show (cellsOf l0 _).length = _; exact hcl, .inr ?_⟩
      rcases hc.row.2 with ⟨e1, -⟩ | ⟨g, cap, cur, e1, hg, hh, h1, h2, h3, h4⟩
      · cases e1
      · cases e1
        refine ⟨kc, Cc, cur, rfl, hg, hh, by omega, h2, h3, ?_⟩
        show _ = cellsOf l0 (e0.take l0.length)
        have h5 := congrArg (List.take (l0.length * 7)) h4
        rw [List.take_take, hcells, List.take_left' hcl] at h5
        rw [← h5]
        congr 1
        simp
    · intro i es x hi hx
      have hlt2 : i < l0.length := (List.getElem?_eq_some_iff.1 hx).1
      rw [List.getElem?_zipWith, hx] at hi
      have h8 : (e0.take l0.length)[i]? = some ((e0.take l0.length)[i]'(by omega)) := List.getElem?_eq_getElem (by omega)
      rw [h8] at hi
      cases hi
      have h9 : e0[i]? = some ((e0.take l0.length)[i]'(by omega)) := by rw [← h8, List.getElem?_take_of_lt hlt2]
      obtain ⟨g1, g2, g3⟩ := hc.inn i x _ (by rw [List.getElem?_append_left hlt2]; exact hx) h9
      exact ⟨_, _, rfl, g1, g2, g3⟩
  · simpa using hrow
  · intro i x b hx hb
    have hel : (er[i]?).isSome := by
      have h1 := h.lene
      have h2 := (List.getElem?_eq_some_iff.1 hb).1
      simp only [List.length_cons] at h1
      rw [List.getElem?_eq_getElem (by omega)]
      rfl
    obtain ⟨es, hes⟩ := Option.isSome_iff_exists.1 hel
    have h1 := h.inn (i + 1) x b es (by simpa using hx) (by simpa using hb) (by simpa using hes)
    refine ⟨h1.toC, fun k hk e1 => ?_⟩
    exact nd_ne h.ndx (i := 0) (j := i + 1) (u := .slice (some ⟨kc, 0, none⟩) (l0 ++ [e]).length Cc) (v := x) rfl (by simpa using hx) (by omega) e1 hk
end
end Go.Proofs.Ytamjcafjdioidaa
