/- A set of blocks that lie well formed in the heap: what may be written over, in whatever order. No condition. -/
import Derived.Test.YtaljdbmmjgmbbaaHm
namespace Go.Proofs.Ytaljdbmmjgmbbaa
open Go.RowKit
set_option linter.unusedSimpArgs false
set_option linter.unusedVariables false

/-- a slice whose cells lie in the set -/
def SlOk (S : Nat → Nat → Prop) (w : World) (T : TypeId) (size : Nat) (u : Value) : Prop :=
  ∃ A n C, u = .slice A n C ∧ n ≤ 2000000 ∧ (0 < n → ∃ g m, A = some ⟨g, 0, none⟩ ∧ S g m ∧ n * size ≤ m ∧ ∃ c, w.heap[g]? = some (.cells c T (0, 0)))
def CellOk (S : Nat → Nat → Prop) (w : World) (t : TypeId) (j : Nat) (u : Value) : Prop :=
  (t = 41 → SlOk S w 44 7 u) ∧ (t = 44 → (j % 7 = 5 → SlOk S w 28 3 u) ∧ (j % 7 = 6 → SlOk S w 3 1 u) ∧ (j % 7 < 5 → ∃ z, u = .int .i64 z)) ∧
  (t = 25 → (j % 4 = 1 → SlOk S w 3 1 u) ∧ (j % 4 = 3 → SlOk S w 41 1 u) ∧ (j % 4 = 0 → ∃ s, u = .string s) ∧ (j % 4 = 2 → ∃ z, u = .int .i64 z)) ∧ (t = 91 → j % 3 = 1 → SlOk S w 3 1 u)
structure Sh (S : Nat → Nat → Prop) (w : World) : Prop where
  at_ : ∀ k m, S k m → ∃ c t, w.heap[k]? = some (.cells c t (0, 0)) ∧ m ≤ c.size ∧ ∀ j u, j < m → c[j]? = some u → CellOk S w t j u
def Dm (S : Nat → Nat → Prop) (k : Nat) : Prop := ∃ m, S k m
/-- the types of the set's blocks stay -/
def Ty (S : Nat → Nat → Prop) (w w' : World) : Prop := ∀ k m, S k m → ∀ c t, w.heap[k]? = some (.cells c t (0, 0)) → ∃ c', w'.heap[k]? = some (.cells c' t (0, 0)) ∧ c'.size = c.size
section
variable {S : Nat → Nat → Prop} {w w' : World}
theorem SlOk.later {T : TypeId} {size : Nat} {u : Value} (h : SlOk S w T size u) (ht : Ty S w w') : SlOk S w' T size u := by
  obtain ⟨A, n, C, h1, h2, h3⟩ := h
  refine ⟨A, n, C, h1, h2, fun hn => ?_⟩
  obtain ⟨g, m, h4, h5, h6, c, h7⟩ := h3 hn
  obtain ⟨c', h8, -⟩ := ht g m h5 c T h7
  exact ⟨g, m, h4, h5, h6, c', h8⟩
theorem CellOk.later {t : TypeId} {j : Nat} {u : Value} (h : CellOk S w t j u) (ht : Ty S w w') : CellOk S w' t j u :=
  ⟨fun e => (h.1 e).later ht, fun e => ⟨fun e' => ((h.2.1 e).1 e').later ht, fun e' => ((h.2.1 e).2.1 e').later ht, (h.2.1 e).2.2⟩,
    fun e => ⟨fun e' => ((h.2.2.1 e).1 e').later ht, fun e' => ((h.2.2.1 e).2.1 e').later ht, (h.2.2.1 e).2.2⟩, fun e e' => (h.2.2.2 e e').later ht⟩
theorem SlOk.none_ {T : TypeId} {size : Nat} : SlOk S w T size (.slice none 0 0) := ⟨none, 0, 0, rfl, Nat.zero_le _, fun h => absurd h (Nat.lt_irrefl _)⟩
theorem Sh.lt (h : Sh S w) {k : Nat} (hk : Dm S k) : k < w.heap.size := by
  obtain ⟨m, hm⟩ := hk
  obtain ⟨c, t, h1, -⟩ := h.at_ k m hm
  exact (Array.getElem?_eq_some_iff.1 h1).1
theorem Sh.kept (h : Sh S w) (hk : ∀ k, Dm S k → w'.heap[k]? = w.heap[k]?) : Sh S w' := by
  have ht : Ty S w w' := fun k m hs c t hc => ⟨c, (hk k ⟨m, hs⟩).trans hc, rfl⟩
  refine ⟨fun k m hs => ?_⟩
  obtain ⟨c, t, h1, h2, h3⟩ := h.at_ k m hs
  exact ⟨c, t, (hk k ⟨m, hs⟩).trans h1, h2, fun j u hj hu => (h3 j u hj hu).later ht⟩
theorem Sh.alloc (h : Sh S w) (o : Obj) : Sh S (w.alloc o) := h.kept fun k hk => Below.heap_alloc _ _ _ (h.lt hk)
/-- one cell is written -/
theorem Sh.set (h : Sh S w) {g j : Nat} {c : Array Value} {t : TypeId} {v : Value} (hg : w.heap[g]? = some (.cells c t (0, 0))) (hv : CellOk S w t j v) : Sh S (w.setCell ⟨g, j, none⟩ v) := by
  have hset := set_heap (j := j) (v := v) hg
  have ht : Ty S w (w.setCell ⟨g, j, none⟩ v) := fun k m hs c' t' hc => by
    by_cases e : k = g
    · subst e
      rw [hg] at hc
      cases hc
      exact ⟨_, hset, by simp⟩
    · exact ⟨c', (Below.heap_setCell _ _ _ _ e).trans hc, rfl⟩
  refine ⟨fun k m hs => ?_⟩
  obtain ⟨c', t', h1, h2, h3⟩ := h.at_ k m hs
  by_cases e : k = g
  · subst e
    rw [hg] at h1
    cases h1
    refine ⟨_, t, hset, by simpa using h2, fun j' u hj hu => ?_⟩
    rw [Array.getElem?_setIfInBounds] at hu
    split at hu
    · rename_i e
      subst e
      split at hu
      · cases hu; exact hv.later ht
      · cases hu
    · exact (h3 j' u hj hu).later ht
  · exact ⟨c', t', (Below.heap_setCell _ _ _ _ e).trans h1, h2, fun j' u hj hu => (h3 j' u hj hu).later ht⟩
theorem cellOk_value {j : Nat} {v : Value} : CellOk S w 28 j v := ⟨fun e => absurd e (by decide), fun e => absurd e (by decide), fun e => absurd e (by decide), fun e => absurd e (by decide)⟩
theorem cellOk_int {j : Nat} {v : Value} : CellOk S w 3 j v := ⟨fun e => absurd e (by decide), fun e => absurd e (by decide), fun e => absurd e (by decide), fun e => absurd e (by decide)⟩
theorem cellOk_var {j : Nat} {v : Value} : CellOk S w 115 j v := ⟨fun e => absurd e (by decide), fun e => absurd e (by decide), fun e => absurd e (by decide), fun e => absurd e (by decide)⟩
theorem cellOk_block {j : Nat} {v : Value} (h : SlOk S w 44 7 v) : CellOk S w 41 j v := ⟨fun _ => h, fun e => absurd e (by decide), fun e => absurd e (by decide), fun e => absurd e (by decide)⟩
theorem cellOk_instr {j : Nat} {v : Value} (h5 : j % 7 = 5 → SlOk S w 28 3 v) (h6 : j % 7 = 6 → SlOk S w 3 1 v) (h0 : j % 7 < 5 → ∃ z, v = .int .i64 z) : CellOk S w 44 j v := ⟨fun e => absurd e (by decide), fun _ => ⟨h5, h6, h0⟩, fun e => absurd e (by decide), fun e => absurd e (by decide)⟩
theorem cellOk_func {j : Nat} {v : Value} (h5 : j % 4 = 1 → SlOk S w 3 1 v) (h6 : j % 4 = 3 → SlOk S w 41 1 v) (h0 : j % 4 = 0 → ∃ s, v = .string s) (h2 : j % 4 = 2 → ∃ z, v = .int .i64 z) : CellOk S w 25 j v := ⟨fun e => absurd e (by decide), fun e => absurd e (by decide), fun _ => ⟨h5, h6, h0, h2⟩, fun e => absurd e (by decide)⟩
theorem cellOk_extern {j : Nat} {v : Value} (h5 : j % 3 = 1 → SlOk S w 3 1 v) : CellOk S w 91 j v := ⟨fun e => absurd e (by decide), fun e => absurd e (by decide), fun e => absurd e (by decide), fun _ => h5⟩
/-- the cells of a slice of the set -/
theorem Sh.cells (h : Sh S w) {g m : Nat} {T : TypeId} {c0 : Array Value} (hs : S g m) (hc : w.heap[g]? = some (.cells c0 T (0, 0))) : m ≤ c0.size ∧ ∀ j, j < m → ∃ u, w.cell? ⟨g, j, none⟩ = some u ∧ CellOk S w T j u := by
  obtain ⟨c, t, h1, h2, h3⟩ := h.at_ g m hs
  rw [hc] at h1
  cases h1
  refine ⟨h2, fun j hj => ?_⟩
  have hu : c0[j]? = some (c0[j]'(by omega)) := Array.getElem?_eq_getElem _
  exact ⟨_, by simp [World.cell?, hc, hu], h3 j _ hj hu⟩
end
/-! ### a tree as such a set -/
def Fine (w : World) (B : Nat) (T : TypeId) (size : Nat) (Q : Array Value → Nat → Prop) (u : Value) : Prop :=
  ∃ A n C, u = .slice A n C ∧ n ≤ 2000000 ∧ (0 < n → ∃ g c, A = some ⟨g, 0, none⟩ ∧ B ≤ g ∧ w.heap[g]? = some (.cells c T (0, 0)) ∧ n * size ≤ c.size ∧ Q c (n * size))
def QI (w : World) (B : Nat) (c : Array Value) (m : Nat) : Prop := ∀ j u, j < m → c[j]? = some u → (j % 7 = 5 → Fine w B 28 3 (fun _ _ => True) u) ∧ (j % 7 = 6 → Fine w B 3 1 (fun _ _ => True) u) ∧ (j % 7 < 5 → ∃ z, u = .int .i64 z)
def QB (w : World) (B : Nat) (c : Array Value) (m : Nat) : Prop := ∀ j u, j < m → c[j]? = some u → Fine w B 44 7 (QI w B) u
def QF (w : World) (B : Nat) (c : Array Value) (m : Nat) : Prop := ∀ j u, j < m → c[j]? = some u → (j % 4 = 1 → Fine w B 3 1 (fun _ _ => True) u) ∧ (j % 4 = 3 → Fine w B 41 1 (QB w B) u) ∧ (j % 4 = 0 → ∃ s, u = .string s) ∧ (j % 4 = 2 → ∃ z, u = .int .i64 z)
def QE (w : World) (B : Nat) (c : Array Value) (m : Nat) : Prop := ∀ j u, j < m → c[j]? = some u → (j % 3 = 1 → Fine w B 3 1 (fun _ _ => True) u)
/-- all blocks from B on that are well formed -/
def FineS (w : World) (B : Nat) (k m : Nat) : Prop := B ≤ k ∧ ∃ c t, w.heap[k]? = some (.cells c t (0, 0)) ∧ m ≤ c.size ∧ (t = 44 → QI w B c m) ∧ (t = 41 → QB w B c m) ∧ (t = 25 → QF w B c m) ∧ (t = 91 → QE w B c m)
section
variable {w : World} {B : Nat}
theorem Fine.sl {T : TypeId} {size : Nat} {Q : Array Value → Nat → Prop} {u : Value} (h : Fine w B T size Q u)
    (h1 : T = 44 → ∀ c m, Q c m → QI w B c m) (h2 : T = 41 → ∀ c m, Q c m → QB w B c m) (h3 : T = 25 → ∀ c m, Q c m → QF w B c m) (h4 : T = 91 → ∀ c m, Q c m → QE w B c m) : SlOk (FineS w B) w T size u := by
  obtain ⟨A, n, C, e, hn, g⟩ := h
  refine ⟨A, n, C, e, hn, fun h0 => ?_⟩
  obtain ⟨g, c, g1, g2, g3, g4, g5⟩ := g h0
  exact ⟨g, n * size, g1, ⟨g2, c, T, g3, g4, fun e => h1 e c _ g5, fun e => h2 e c _ g5, fun e => h3 e c _ g5, fun e => h4 e c _ g5⟩, Nat.le_refl _, c, g3⟩
theorem Fine.int_ {u : Value} (h : Fine w B 3 1 (fun _ _ => True) u) : SlOk (FineS w B) w 3 1 u := h.sl (fun e => absurd e (by decide)) (fun e => absurd e (by decide)) (fun e => absurd e (by decide)) (fun e => absurd e (by decide))
theorem Fine.value {u : Value} (h : Fine w B 28 3 (fun _ _ => True) u) : SlOk (FineS w B) w 28 3 u := h.sl (fun e => absurd e (by decide)) (fun e => absurd e (by decide)) (fun e => absurd e (by decide)) (fun e => absurd e (by decide))
theorem Fine.var {u : Value} {n : Nat} (h : Fine w B 115 n (fun _ _ => True) u) : SlOk (FineS w B) w 115 n u := h.sl (fun e => absurd e (by decide)) (fun e => absurd e (by decide)) (fun e => absurd e (by decide)) (fun e => absurd e (by decide))
theorem Fine.code {u : Value} (h : Fine w B 44 7 (QI w B) u) : SlOk (FineS w B) w 44 7 u := h.sl (fun _ _ _ h => h) (fun e => absurd e (by decide)) (fun e => absurd e (by decide)) (fun e => absurd e (by decide))
theorem Fine.blocks {u : Value} (h : Fine w B 41 1 (QB w B) u) : SlOk (FineS w B) w 41 1 u := h.sl (fun e => absurd e (by decide)) (fun _ _ _ h => h) (fun e => absurd e (by decide)) (fun e => absurd e (by decide))
theorem Fine.funs {u : Value} (h : Fine w B 25 4 (QF w B) u) : SlOk (FineS w B) w 25 4 u := h.sl (fun e => absurd e (by decide)) (fun e => absurd e (by decide)) (fun _ _ _ h => h) (fun e => absurd e (by decide))
theorem Fine.externs {u : Value} (h : Fine w B 91 3 (QE w B) u) : SlOk (FineS w B) w 91 3 u := h.sl (fun e => absurd e (by decide)) (fun e => absurd e (by decide)) (fun e => absurd e (by decide)) (fun _ _ _ h => h)
theorem fineS_sh (w : World) (B : Nat) : Sh (FineS w B) w := by
  refine ⟨fun k m hs => ?_⟩
  obtain ⟨hB, c, t, h1, h2, h3, h4, h5, h6⟩ := hs
  refine ⟨c, t, h1, h2, fun j u hj hu => ⟨fun e => (h4 e j u hj hu).code, fun e => ⟨fun e' => ((h3 e j u hj hu).1 e').value, fun e' => ((h3 e j u hj hu).2.1 e').int_, (h3 e j u hj hu).2.2⟩, fun e => ⟨fun e' => ((h5 e j u hj hu).1 e').int_, fun e' => ((h5 e j u hj hu).2.1 e').blocks, (h5 e j u hj hu).2.2⟩, fun e e' => (h6 e j u hj hu e').int_⟩⟩
theorem fineS_le {k : Nat} (h : Dm (FineS w B) k) : B ≤ k ∧ k < w.heap.size := by
  obtain ⟨m, h1, c, t, h2, -⟩ := h
  exact ⟨h1, (Array.getElem?_eq_some_iff.1 h2).1⟩
theorem fine_row {T : TypeId} {size n : Nat} {u : Value} {xs : List Value} {Q : Array Value → Nat → Prop} (h : w.ownsRow B T size u n xs) (hn : n ≤ 2000000) (hQ : ∀ c, (∀ j v, j < n * size → c[j]? = some v → xs[j]? = some v) → Q c (n * size)) : Fine w B T size Q u := by
  rcases h.2 with ⟨rfl, rfl⟩ | ⟨g, cap, cur, rfl, h1, h2, h3, h4, h5, h6⟩
  · exact ⟨none, 0, 0, rfl, Nat.zero_le _, fun h => absurd h (Nat.lt_irrefl _)⟩
  · refine ⟨_, n, cap, rfl, hn, fun h0 => ⟨g, cur, rfl, h1, h2, by rw [h5]; exact Nat.mul_le_mul_right _ h3, hQ cur fun j v hj hv => ?_⟩⟩
    rw [← h6, List.getElem?_take_of_lt hj, Array.getElem?_toList]
    exact hv
theorem OwnI.fine {l : List Int} {v : Value} (h : OwnI w B v l) (hl : l.length ≤ 2000000) : Fine w B 3 1 (fun _ _ => True) v := fine_row h.row hl fun _ _ => trivial
theorem OwnV.fine {l : List Opd} {v : Value} (h : OwnV w B v l) (hl : l.length ≤ 2000000) : Fine w B 28 3 (fun _ _ => True) v := fine_row h.row hl fun _ _ => trivial
theorem fine_insC {x : Ins} {c d u : Value} {j : Nat} (hc : OwnV w B c x.args) (hd : OwnI w B d x.to) (h1 : x.args.length ≤ 2000000) (h2 : x.to.length ≤ 2000000) (hu : (insC x c d)[j]? = some u) :
    (j = 5 → Fine w B 28 3 (fun _ _ => True) u) ∧ (j = 6 → Fine w B 3 1 (fun _ _ => True) u) ∧ (j < 5 → ∃ z, u = .int .i64 z) := by
  refine ⟨fun e => ?_, fun e => ?_, fun e => ?_⟩
  · subst e; cases hu; exact hc.fine h1
  · subst e; cases hu; exact hd.fine h2
  · match j, e with
    | 0, _ => cases hu; exact ⟨_, rfl⟩
    | 1, _ => cases hu; exact ⟨_, rfl⟩
    | 2, _ => cases hu; exact ⟨_, rfl⟩
    | 3, _ => cases hu; exact ⟨_, rfl⟩
    | 4, _ => cases hu; exact ⟨_, rfl⟩
theorem flat7 : ∀ (ess : List (List Value)), (∀ es, es ∈ ess → es.length = 7) → ∀ j u, ess.flatten[j]? = some u → ∃ es, ess[j / 7]? = some es ∧ es[j % 7]? = some u
  | [], _, j, u, h => by simp at h
  | e :: ess, hl, j, u, h => by
    have he := hl e (List.mem_cons_self ..)
    rw [List.flatten_cons] at h
    rcases Nat.lt_or_ge j 7 with h7 | h7
    · rw [List.getElem?_append_left (by omega)] at h
      exact ⟨e, by rw [Nat.div_eq_of_lt h7]; rfl, by rw [Nat.mod_eq_of_lt h7]; exact h⟩
    · rw [List.getElem?_append_right (by omega), he] at h
      obtain ⟨es, h1, h2⟩ := flat7 ess (fun es hes => hl es (List.mem_cons_of_mem _ hes)) (j - 7) u h
      obtain ⟨n, rfl⟩ : ∃ n, j = n + 7 := ⟨j - 7, by omega⟩
      refine ⟨es, ?_, ?_⟩
      · rw [show (n + 7) / 7 = n / 7 + 1 by omega, List.getElem?_cons_succ]; simpa using h1
      · rw [show (n + 7) % 7 = n % 7 by omega]; simpa using h2
theorem OwnC.fine {l : List Ins} {v : Value} (h : OwnC w B v l) (hl : l.length ≤ 2000000) (hi : ∀ i, i ∈ l → i.args.length ≤ 2000000 ∧ i.to.length ≤ 2000000) : Fine w B 44 7 (QI w B) v := by
  obtain ⟨ess, h1, h2, h3⟩ := h
  have h7 : ∀ es, es ∈ ess → es.length = 7 := fun es hes => by
    obtain ⟨i, hi'⟩ := List.getElem?_of_mem hes
    have hil := (List.getElem?_eq_some_iff.1 hi').1
    obtain ⟨c, d, e, -⟩ := h3 i es _ hi' (List.getElem?_eq_getElem (by omega))
    rw [e]; rfl
  refine fine_row h2 hl fun c hc j u hj hu => ?_
  obtain ⟨es, g1, g2⟩ := flat7 ess h7 j u (hc j u hj hu)
  have hil := (List.getElem?_eq_some_iff.1 g1).1
  have hx : l[j / 7]? = some (l[j / 7]'(by omega)) := List.getElem?_eq_getElem _
  obtain ⟨cv, dv, e, hv, hd, -⟩ := h3 _ es _ g1 hx
  subst e
  have hm := hi _ (List.mem_of_getElem? hx)
  exact fine_insC hv hd hm.1 hm.2 g2
theorem OwnK.fine {bs : List (List Ins)} {v : Value} (h : OwnK w B v bs) (hl : bs.length ≤ 2000000) (hi : ∀ x, x ∈ bs → x.length ≤ 2000000 ∧ ∀ i, i ∈ x → i.args.length ≤ 2000000 ∧ i.to.length ≤ 2000000) : Fine w B 41 1 (QB w B) v := by
  obtain ⟨xs, h1, h2, h3⟩ := h
  refine fine_row h2 hl fun c hc j u hj hu => ?_
  have hx := hc j u hj hu
  have hil := (List.getElem?_eq_some_iff.1 hx).1
  have hb : bs[j]? = some (bs[j]'(by omega)) := List.getElem?_eq_getElem _
  have hm := hi _ (List.mem_of_getElem? hb)
  exact (h3 j u _ hx hb).fine hm.1 hm.2
theorem OwnCd.ownC {l : List Ins} {v : Value} {es : List (Value × Value)} (h : OwnCd w B v l es) : OwnC w B v l := by
  refine ⟨List.zipWith (fun (x : Ins) (e : Value × Value) => insC x e.1 e.2) l es, by simp [h.len], h.row, fun i es' x he hx => ?_⟩
  rw [List.getElem?_zipWith, hx] at he
  cases hq : es[i]? with
  | none => rw [hq] at he; cases he
  | some e =>
    rw [hq] at he
    cases he
    obtain ⟨g1, g2, g3⟩ := h.inn i x e hx hq
    exact ⟨_, _, rfl, g1, g2, g3⟩
theorem OwnKd.ownK {bs : List (List Ins)} {v : Value} {xs : List Value} {ess : List (List (Value × Value))} (h : OwnKd w B v bs xs ess) : OwnK w B v bs := by
  refine ⟨xs, h.lenx, h.row, fun i x b hx hb => ?_⟩
  have hi := (List.getElem?_eq_some_iff.1 hx).1
  have h2 : i < ess.length := by rw [h.lene, ← h.lenx]; exact hi
  exact (h.inn i x b _ hx hb (List.getElem?_eq_getElem h2)).ownC
end
end Go.Proofs.Ytaljdbmmjgmbbaa
