/- Layer 9: rows of steps, and a row of rows of bytes that a call has built. No condition. -/
import Derived.Test.YtgkgmeofilkopaaMwP
import Derived.Test.YtgkgmeofilkopaaMmO
import Derived.Test.YtgkgmeofilkopaaMwK
namespace Go.Proofs.Ytgkgmeofilkopaa
open Go.RowKit Go.ChangeShapes Go.WideShapes Go.Deep
set_option linter.unusedSimpArgs false
set_option linter.unusedVariables false

structure Stp where
  kind : Int
  a : Int
  b : Int
  t : Int
  v : Val
  at_ : Val
  byte : Int
def sc (s : Stp) : List Value := [.int .i64 s.kind, .int .i64 s.a, .int .i64 s.b, .int .i64 s.t, .int .i64 s.v.kind, .int .u64 s.v.bits, .int .i64 s.v.block, .int .i64 s.v.off, .int .i64 s.at_.kind, .int .u64 s.at_.bits, .int .i64 s.at_.block, .int .i64 s.at_.off, .int .u8 s.byte]
structure SOk (s : Stp) : Prop where
  v : 0 ≤ s.v.bits ∧ s.v.bits ≤ 18446744073709551615
  at_ : 0 ≤ s.at_.bits ∧ s.at_.bits ≤ 18446744073709551615
  byte : 0 ≤ s.byte ∧ s.byte ≤ 255
def RStp : Rp Stp := .plain sc SOk
theorem len13 {α : Type} {l : List α} (h : l.length = 13) : ∃ a0 a1 a2 a3 a4 a5 a6 a7 a8 a9 a10 a11 a12 : α, l = [a0, a1, a2, a3, a4, a5, a6, a7, a8, a9, a10, a11, a12] := by
  match l, h with
  | [a0, a1, a2, a3, a4, a5, a6, a7, a8, a9, a10, a11, a12], _ => exact ⟨a0, a1, a2, a3, a4, a5, a6, a7, a8, a9, a10, a11, a12, rfl⟩
theorem mcells_Step : Try.prog.cellsOf 78 = 13 := by kernel_rfl
theorem opens_Step : Opens 78 RStp (fun _ => 1) := by
  intro H enc w base spare held fuel cs x h
  obtain ⟨xs, k, _, rfl, hl, hlen, hf⟩ := DataW.trod_struct Try.underlying78 h
  obtain ⟨c0, c1, c2, c3, c4, c5, c6, c7, c8, c9, c10, c11, c12, rfl⟩ := len13 (hl.trans mcells_Step)
  obtain ⟨y0, y1, y2, y3, y4, y5, y6, rfl⟩ := len7 (hlen.trans rfl)
  obtain ⟨n0, e0, _, w0⟩ := DataW.trod_int Try.underlying3 (hf 0 _ rfl)
  obtain ⟨n1, e1, _, w1⟩ := DataW.trod_int Try.underlying3 (hf 1 _ rfl)
  obtain ⟨n2, e2, _, w2⟩ := DataW.trod_int Try.underlying3 (hf 2 _ rfl)
  obtain ⟨n3, e3, _, w3⟩ := DataW.trod_int Try.underlying3 (hf 3 _ rfl)
  obtain ⟨m4, ⟨e4, z4⟩, _⟩ := opens_Valu _ _ _ _ _ _ _ _ _ (hf 4 _ rfl)
  obtain ⟨m5, ⟨e5, z5⟩, _⟩ := opens_Valu _ _ _ _ _ _ _ _ _ (hf 5 _ rfl)
  obtain ⟨n6, e6, _, w6⟩ := DataW.trod_int Try.underlying5 (hf 6 _ rfl)
  simp [cells_int, mcells_u8, mcells_Val] at e0 e1 e2 e3 e4 e5 e6
  subst e0 e1 e2 e3 e6
  obtain ⟨rfl, rfl, rfl, rfl⟩ := e4
  obtain ⟨rfl, rfl, rfl, rfl⟩ := e5
  exact ⟨⟨n0, n1, n2, n3, m4, m5, n6⟩, ⟨rfl, ⟨z4.bits, z5.bits, u8_of w6⟩⟩, bulk_one _⟩
theorem opens_Steps : Opens 74 (.slice 13 RStp) (fun l => (l.map fun _ => 1).sum + 1) := opens_slice Try.underlying74 mcells_Step (by omega) opens_Step
theorem opens_num : Opens 3 RNum (fun _ => 1) := by
  intro H enc w base spare held fuel cs x h
  obtain ⟨n, rfl, rfl, hw⟩ := DataW.trod_int Try.underlying3 h
  exact ⟨n, ⟨rfl, trivial⟩, bulk_one _⟩
theorem opens_Nums : Opens 22 (.slice 1 RNum) (fun l => (l.map fun _ => 1).sum + 1) := opens_slice Try.underlying22 cells_int (by omega) opens_num

/-! ### rows of steps -/
def stepF (bs : MemS) (s : Stp) : MemS := if s.kind = 1 then allocS bs s.a else if s.kind = 4 then (storeS bs s.t s.v s.at_).1 else bs
def stepK (bs : MemS) (s : Stp) : MemS := if s.kind = 1 then allocS bs s.a else if s.kind = 2 then freeS bs s.a else if s.kind = 4 then (storeS bs s.t s.v s.at_).1 else if s.kind = 5 then (setS bs s.a s.b s.byte).1 else bs
def play (f : MemS → Stp → MemS) (bs : MemS) (l : List Stp) : MemS := l.foldl f bs
theorem play_snoc {f : MemS → Stp → MemS} {bs : MemS} {l : List Stp} {k : Nat} {s : Stp} (h : l[k]? = some s) : play f bs (l.take (k + 1)) = f (play f bs (l.take k)) s := by
  unfold play
  rw [List.take_add_one, h]
  simp [List.foldl_append]
theorem store_len (bs : MemS) (t : Int) (v a : Val) : (storeS bs t v a).1.length = bs.length := by
  unfold storeS; split <;> simp
theorem setS_len (bs : MemS) (i a b : Int) : (setS bs i a b).1.length = bs.length := by
  unfold setS; split
  · rfl
  · split <;> simp
theorem free_len (bs : MemS) (i : Int) : (freeS bs i).length = bs.length := by
  unfold freeS; split <;> simp
theorem alloc_len (bs : MemS) (n : Int) : (allocS bs n).length = bs.length + 1 := by simp [allocS]
theorem stepF_len (bs : MemS) (s : Stp) : (stepF bs s).length = bs.length + (if s.kind = 1 then 1 else 0) := by
  unfold stepF
  split
  · exact alloc_len _ _
  · split
    · exact store_len _ _ _ _
    · rfl
theorem stepK_len (bs : MemS) (s : Stp) : (stepK bs s).length = bs.length + (if s.kind = 1 then 1 else 0) := by
  unfold stepK
  split
  · exact alloc_len _ _
  · split
    · exact free_len _ _
    · split
      · exact store_len _ _ _ _
      · split
        · exact setS_len _ _ _ _
        · rfl
theorem play_len {f : MemS → Stp → MemS} (hf : ∀ bs s, (f bs s).length = bs.length + (if s.kind = 1 then 1 else 0)) : ∀ (l : List Stp) (bs : MemS), (play f bs l).length ≤ bs.length + l.length
  | [], bs => Nat.le_refl _
  | s :: l, bs => by
    have := play_len hf l (f bs s)
    have h2 := hf bs s
    unfold play at *
    rw [List.foldl_cons, List.length_cons]
    split at h2 <;> omega

/-! ### a row of rows of bytes -/
theorem MemIs.okb {w : World} {g : Nat} {F : Nat → Prop} {bs : MemS} (h : MemIs w g F bs) (i : Int) : OkB (bytesS bs i) ∧ (bytesS bs i).length ≤ 4096 := by
  unfold bytesS
  cases hb : bytesAt bs i with
  | none => exact ⟨fun b hb => (by cases hb), Nat.zero_le _⟩
  | some l =>
    obtain ⟨k, rfl, h0⟩ := bytesAt_some hb
    have hk := (List.getElem?_eq_some_iff.1 h0).1
    obtain ⟨B, C, -, -, -, -, -, -, h2⟩ := h.head (by omega)
    obtain ⟨x, ⟨h3, h4, -⟩, -⟩ := h2 k _ h0
    exact ⟨h3, h4⟩
/-- v is a row of rows ys of bytes, all of it from block 'base' on -/
def Was (w : World) (base : Nat) (v : Value) (ys : List (List Byt)) : Prop := ∃ xs : List Value, w.ownsRow base 48 1 v ys.length xs ∧ ∀ (i : Nat) x y, xs[i]? = some x → ys[i]? = some y → OwnB w base x y
theorem Was.nil_ (w : World) (base : Nat) : Was w base (.slice none 0 0) [] := ⟨[], ⟨rfl, .inl ⟨rfl, rfl⟩⟩, fun i x y h => by simp at h⟩
theorem Was.form {w : World} {base : Nat} {v : Value} {ys : List (List Byt)} (h : Was w base v ys) : ∃ A C, v = .slice A ys.length C ∧ ∀ k, v.ownBlock = some k → base ≤ k := by
  obtain ⟨xs, h, -⟩ := h
  rcases h.2 with ⟨rfl, h0⟩ | ⟨g, C, cur, rfl, hb, _⟩
  · exact ⟨none, 0, by rw [h0], fun k hk => by cases hk⟩
  · exact ⟨_, C, rfl, fun k hk => by cases hk; exact hb⟩
theorem own_lt {w : World} {base : Nat} {e : TypeId} {size : Nat} {v : Value} {n : Nat} {xs : List Value} {k : Nat} (h : w.ownsRow base e size v n xs) (hk : v.ownBlock = some k) : base ≤ k ∧ k < w.heap.size := by
  rcases h.2 with ⟨rfl, _⟩ | ⟨B, C, cur, rfl, hb, hB, _⟩
  · cases hk
  · cases hk; exact ⟨hb, (Array.getElem?_eq_some_iff.1 hB).1⟩
theorem Was.kept {w w' : World} {base : Nat} {v : Value} {ys : List (List Byt)} (h : Was w base v ys) (hk : ∀ k, base ≤ k → k < w.heap.size → w'.heap[k]? = w.heap[k]?) : Was w' base v ys := by
  obtain ⟨xs, h1, h2⟩ := h
  refine ⟨xs, ownsRow_kept h1 fun k hv => hk k (own_lt h1 hv).1 (own_lt h1 hv).2, fun i x y hx hy => ?_⟩
  have h3 := h2 i x y hx hy
  exact ownsRow_kept h3 fun k hv => hk k (own_lt h3 hv).1 (own_lt h3 hv).2
theorem Was.later {w w' : World} {base : Nat} {v : Value} {ys : List (List Byt)} (h : Was w base v ys) (hb : Below w.heap.size w w') : Was w' base v ys := h.kept fun k _ hk => hb.block k hk
theorem Was.upd {w w' : World} {F : Nat → Prop} {base : Nat} {v : Value} {ys : List (List Byt)} (h : Was w base v ys) (hb : Upd F w w') (hF : ∀ k, F k → k < base) : Was w' base v ys := h.kept fun k h1 hk => hb.block k hk (fun hf => by have := hF k hf; omega)
theorem Was.snoc {w w' : World} {base : Nat} {v v' x : Value} {ys : List (List Byt)} {y : List Byt} {xs : List Value} (h1 : w.ownsRow base 48 1 v ys.length xs) (h2 : ∀ (i : Nat) x y, xs[i]? = some x → ys[i]? = some y → OwnB w base x y)
    (hx : OwnB w base x y) (ho : w'.ownsRow base 48 1 v' (ys.length + 1) (xs ++ [x])) (hg : (w.alloc (.cells #[x] 48)).grownBy w' v.ownBlock) : Was w' base v' (ys ++ [y]) := by
  have hl : xs.length = ys.length := by have := h1.1; omega
  have hall : ∀ x y, OwnB w base x y → OwnB w' base x y := fun x y h => World.ownsRow.kept (World.ownsRow.alloc h _) hg (own_ne h h1 (by decide))
  refine ⟨xs ++ [x], by simpa using ho, fun i x' y' hx' hy' => ?_⟩
  rcases Nat.lt_or_ge i xs.length with hi | hi
  · rw [List.getElem?_append_left hi] at hx'
    rw [List.getElem?_append_left (by omega)] at hy'
    exact hall _ _ (h2 i x' y' hx' hy')
  · rw [List.getElem?_append_right hi] at hx'
    rw [List.getElem?_append_right (by omega)] at hy'
    have h0 : i - xs.length = 0 := by have := (List.getElem?_eq_some_iff.1 hx').1; simp at this; omega
    rw [h0] at hx'
    rw [show i - ys.length = 0 by omega] at hy'
    cases hx'; cases hy'
    exact hall _ _ hx
/-- one row of them -/
theorem Was.at_ {w : World} {base : Nat} {v : Value} {ys : List (List Byt)} (h : Was w base v ys) {i : Nat} {y : List Byt} (hy : ys[i]? = some y) : ∃ g C A c, v = .slice (some ⟨g, 0, none⟩) ys.length C ∧ base ≤ g ∧ w.cell? ⟨g, i, none⟩ = some (.slice A y.length c) ∧ OwnB w base (.slice A y.length c) y := by
  obtain ⟨xs, h1, h2⟩ := h
  have hi := (List.getElem?_eq_some_iff.1 hy).1
  have hl : xs.length = ys.length := by have := h1.1; omega
  obtain ⟨x, hx⟩ : ∃ x, xs[i]? = some x := ⟨_, List.getElem?_eq_getElem (by omega)⟩
  have h3 := h2 i x y hx hy
  obtain ⟨A, c, hxx⟩ : ∃ A c, x = .slice A y.length c := by
    rcases h3.2 with ⟨e, h0⟩ | ⟨g, c, cur, e, _⟩
    · exact ⟨none, 0, by rw [e, h0]⟩
    · exact ⟨_, c, e⟩
  subst hxx
  rcases h1.2 with ⟨e, h0⟩ | ⟨g, C, cur, e, hb, hg, hnc, hcm, hcs, htake⟩
  · omega
  · subst e
    refine ⟨g, C, A, c, rfl, hb, ?_, h3⟩
    rw [World.ownsRow.cellAt h1 i (by omega)]
    exact hx
/-- the cells of one byte of a row -/
theorem OwnB.at_ {w : World} {base : Nat} {A : Option Addr} {n c : Nat} {l : List Byt} (h : OwnB w base (.slice A n c) l) {k : Nat} {b : Byt} (hb : l[k]? = some b) : ∃ g, A = some ⟨g, 0, none⟩ ∧ base ≤ g ∧ g < w.heap.size ∧
    w.cell? ⟨g, k * 5, none⟩ = some (.int .i64 b.kind) ∧ w.cell? ⟨g, k * 5 + 1, none⟩ = some (.int .u8 b.bits) ∧ w.cell? ⟨g, k * 5 + 2, none⟩ = some (.int .i64 b.block) ∧
    w.cell? ⟨g, k * 5 + 3, none⟩ = some (.int .i64 b.off) ∧ w.cell? ⟨g, k * 5 + 4, none⟩ = some (.int .i64 b.i) := by
  have hk := (List.getElem?_eq_some_iff.1 hb).1
  rcases h.2 with ⟨e, h0⟩ | ⟨g, C, cur, e, hbb, hg, _⟩
  · omega
  · cases e
    obtain ⟨h1, h2, h3, h4, h5⟩ := (OwnB.cells h hb).1
    exact ⟨g, rfl, hbb, (Array.getElem?_eq_some_iff.1 hg).1, h1, h2, h3, h4, h5⟩
/-- all rows of a memory up to k -/
def rowsS (bs : MemS) (k : Nat) : List (List Byt) := (List.range k).map fun i : Nat => bytesS bs (i : Int)
theorem rowsS_len (bs : MemS) (k : Nat) : (rowsS bs k).length = k := by simp [rowsS]
theorem rowsS_snoc (bs : MemS) (k : Nat) : rowsS bs (k + 1) = rowsS bs k ++ [bytesS bs k] := by simp [rowsS, List.range_succ]
theorem rowsS_at (bs : MemS) {k i : Nat} (h : i < k) : (rowsS bs k)[i]? = some (bytesS bs i) := by simp [rowsS, h]
end Go.Proofs.Ytgkgmeofilkopaa
