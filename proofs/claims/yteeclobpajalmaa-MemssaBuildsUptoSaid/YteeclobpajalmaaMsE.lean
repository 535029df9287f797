/- The builder of memssa in memory. No condition. -/
import Derived.Test.YteeclobpajalmaaMsD
import Derived.Test.YteeclobpajalmaaOf
import Derived.Deep.OwnRows
import Derived.Deep.RegionHeld3
namespace Go.Proofs.Yteeclobpajalmaa
open Go.RowKit
set_option linter.unusedSimpArgs false
set_option linter.unusedVariables false

theorem below_al {W w : World} {o : Obj} (h : Below W.heap.size W w) : Below W.heap.size W (w.alloc o) := h.alloc h.size o
theorem blk_ne {w : World} {a b : Nat} {c d : Array Value} {s t : TypeId} {fr fr' : Nat × Nat} (ha : w.heap[a]? = some (.cells c s fr)) (hb : w.heap[b]? = some (.cells d t fr')) (h : s ≠ t) : a ≠ b := fun e => by
  subst e
  rw [ha] at hb
  cases hb
  exact h rfl
theorem OwnAc.far {w w' : World} {B Bi : Nat} {v : Value} {ls : List Ac} {es : List AcV} (h : OwnAc w B Bi v ls es) (h1 : ∀ k, v.ownBlock = some k → w'.heap[k]? = w.heap[k]?) (h2 : ∀ (i : Nat) e k, es[i]? = some e → e.has k → w'.heap[k]? = w.heap[k]?) : OwnAc w' B Bi v ls es :=
  ⟨h.len, row_kept h.row h1, fun i x e hx he => by
    obtain ⟨g1, g2⟩ := h.inn i x e hx he
    exact ⟨⟨row_kept g1.row fun k hk => h2 i e k he (.inl hk), g1.ok⟩, ⟨row_kept g2.row fun k hk => h2 i e k he (.inr hk), g2.ok⟩⟩, h.apart, h.self⟩
/-- the builder: its block, the row of accesses, three rows of numbers -/
structure Bld (w : World) (B Bo gk gp gf ge : Nat) (x0 x1 x2 x3 vO : Value) (n : Nat) (ls : List Ac) (es : List AcV) (Lp Lf Le : List Int) : Prop where
  box : w.heap[gk]? = some (.cells #[x0, x1, x2, x3, vO, .slice (some ⟨gp, 0, none⟩) n n, .slice (some ⟨gf, 0, none⟩) n n, .slice (some ⟨ge, 0, none⟩) n n] 68 (0, 0))
  low : B ≤ gk
  bo : B ≤ Bo
  out : OwnAc w Bo Bo vO ls es
  p : OwnN w B gp n Lp
  f : OwnN w B gf n Lf
  e : OwnN w B ge n Le
  pf : gp ≠ gf
  pe : gp ≠ ge
  fe : gf ≠ ge
  sep : ∀ (i : Nat) e k, es[i]? = some e → e.has k → k ≠ gp ∧ k ≠ gf ∧ k ≠ ge
section
variable {w w' : World} {B Bo gk gp gf ge : Nat} {x0 x1 x2 x3 vO : Value} {n : Nat} {ls : List Ac} {es : List AcV} {Lp Lf Le : List Int}
theorem Bld.cells (h : Bld w B Bo gk gp gf ge x0 x1 x2 x3 vO n ls es Lp Lf Le) : w.cell? ⟨gk, 0, none⟩ = some x0 ∧ w.cell? ⟨gk, 1, none⟩ = some x1 ∧ w.cell? ⟨gk, 2, none⟩ = some x2 ∧ w.cell? ⟨gk, 3, none⟩ = some x3 ∧ w.cell? ⟨gk, 4, none⟩ = some vO ∧
    w.cell? ⟨gk, 5, none⟩ = some (.slice (some ⟨gp, 0, none⟩) n n) ∧ w.cell? ⟨gk, 6, none⟩ = some (.slice (some ⟨gf, 0, none⟩) n n) ∧ w.cell? ⟨gk, 7, none⟩ = some (.slice (some ⟨ge, 0, none⟩) n n) := by
  have := h.box
  simp [World.cell?, this]
theorem Bld.free (h : Bld w B Bo gk gp gf ge x0 x1 x2 x3 vO n ls es Lp Lf Le) (j : Nat) : w.frozen? ⟨gk, j, none⟩ = false := one_free h.box
theorem Bld.lt (h : Bld w B Bo gk gp gf ge x0 x1 x2 x3 vO n ls es Lp Lf Le) : gk < w.heap.size := (Array.getElem?_eq_some_iff.1 h.box).1
theorem Bld.form (h : Bld w B Bo gk gp gf ge x0 x1 x2 x3 vO n ls es Lp Lf Le) : ∃ A C, vO = .slice A ls.length C := row_form h.out.row
theorem Bld.below (h : Bld w B Bo gk gp gf ge x0 x1 x2 x3 vO n ls es Lp Lf Le) (hb : Below w.heap.size w w') : Bld w' B Bo gk gp gf ge x0 x1 x2 x3 vO n ls es Lp Lf Le :=
  ⟨(hb.block gk h.lt).trans h.box, h.low, h.bo, h.out.below hb, h.p.below hb, h.f.below hb, h.e.below hb, h.pf, h.pe, h.fe, h.sep⟩
theorem Bld.of_heap (h : Bld w B Bo gk gp gf ge x0 x1 x2 x3 vO n ls es Lp Lf Le) (hk : ∀ k, B ≤ k → k < w.heap.size → w'.heap[k]? = w.heap[k]?) : Bld w' B Bo gk gp gf ge x0 x1 x2 x3 vO n ls es Lp Lf Le :=
  ⟨(hk gk h.low h.lt).trans h.box, h.low, h.bo, h.out.kept fun k hk' => hk k (by have := h.bo; omega), h.p.keep (hk gp h.p.lt.1 h.p.lt.2), h.f.keep (hk gf h.f.lt.1 h.f.lt.2), h.e.keep (hk ge h.e.lt.1 h.e.lt.2), h.pf, h.pe, h.fe, h.sep⟩
theorem Bld.mono {B' : Nat} (h : Bld w B Bo gk gp gf ge x0 x1 x2 x3 vO n ls es Lp Lf Le) (hb : B' ≤ B) : Bld w B' Bo gk gp gf ge x0 x1 x2 x3 vO n ls es Lp Lf Le :=
  ⟨h.box, Nat.le_trans hb h.low, Nat.le_trans hb h.bo, h.out, h.p.mono hb, h.f.mono hb, h.e.mono hb, h.pf, h.pe, h.fe, h.sep⟩
theorem OwnN.blk {g : Nat} {l : List Int} (h : OwnN w B g n l) : ∃ c, w.heap[g]? = some (.cells c 3 (0, 0)) := (row_lt h rfl).2.2
theorem Bld.ne (h : Bld w B Bo gk gp gf ge x0 x1 x2 x3 vO n ls es Lp Lf Le) {g : Nat} {l : List Int} (hg : OwnN w B g n l) : gk ≠ g := by
  obtain ⟨c, hc⟩ := hg.blk
  exact blk_ne h.box hc (by decide)
theorem OwnAc.setN (h : OwnAc w Bo Bo vO ls es) {g : Nat} {l : List Int} (hg : OwnN w B g n l) (hs : ∀ (i : Nat) e k, es[i]? = some e → e.has k → k ≠ g) (j : Nat) (u : Value) : OwnAc (w.setCell ⟨g, j, none⟩ u) Bo Bo vO ls es := by
  obtain ⟨c, hc⟩ := hg.blk
  refine h.far (fun k hk => Below.heap_setCell _ _ _ _ ?_) (fun i e k he hk => Below.heap_setCell _ _ _ _ (hs i e k he hk))
  obtain ⟨-, -, c', h1⟩ := row_lt h.row hk
  exact blk_ne h1 hc (by decide)
theorem Bld.setP (h : Bld w B Bo gk gp gf ge x0 x1 x2 x3 vO n ls es Lp Lf Le) (k : Nat) (x : Int) : Bld (w.setCell ⟨gp, k, none⟩ (.int .i64 x)) B Bo gk gp gf ge x0 x1 x2 x3 vO n ls es (Lp.set k x) Lf Le :=
  ⟨set_far h.box (h.ne h.p), h.low, h.bo, h.out.setN h.p (fun i e k he hk => (h.sep i e k he hk).1) _ _, h.p.set_ k x, h.f.keep (Below.heap_setCell _ _ _ _ h.pf.symm), h.e.keep (Below.heap_setCell _ _ _ _ h.pe.symm), h.pf, h.pe, h.fe, h.sep⟩
theorem Bld.setF (h : Bld w B Bo gk gp gf ge x0 x1 x2 x3 vO n ls es Lp Lf Le) (k : Nat) (x : Int) : Bld (w.setCell ⟨gf, k, none⟩ (.int .i64 x)) B Bo gk gp gf ge x0 x1 x2 x3 vO n ls es Lp (Lf.set k x) Le :=
  ⟨set_far h.box (h.ne h.f), h.low, h.bo, h.out.setN h.f (fun i e k he hk => (h.sep i e k he hk).2.1) _ _, h.p.keep (Below.heap_setCell _ _ _ _ h.pf), h.f.set_ k x, h.e.keep (Below.heap_setCell _ _ _ _ h.fe.symm), h.pf, h.pe, h.fe, h.sep⟩
theorem Bld.setE (h : Bld w B Bo gk gp gf ge x0 x1 x2 x3 vO n ls es Lp Lf Le) (k : Nat) (x : Int) : Bld (w.setCell ⟨ge, k, none⟩ (.int .i64 x)) B Bo gk gp gf ge x0 x1 x2 x3 vO n ls es Lp Lf (Le.set k x) :=
  ⟨set_far h.box (h.ne h.e), h.low, h.bo, h.out.setN h.e (fun i e k he hk => (h.sep i e k he hk).2.2) _ _, h.p.keep (Below.heap_setCell _ _ _ _ h.pe), h.f.keep (Below.heap_setCell _ _ _ _ h.fe), h.e.set_ k x, h.pf, h.pe, h.fe, h.sep⟩
theorem setCell_comm (w : World) (a b i j : Nat) (u v : Value) (h : a ≠ b) : (w.setCell ⟨a, i, none⟩ u).setCell ⟨b, j, none⟩ v = (w.setCell ⟨b, j, none⟩ v).setCell ⟨a, i, none⟩ u := by
  simp only [World.setCell]
  congr 1
  refine Array.ext (by simp) fun k h1 h2 => ?_
  simp only [Array.getElem_modify]
  by_cases e1 : a = k
  · by_cases e2 : b = k
    · omega
    · simp [e1, e2]
  · by_cases e2 : b = k
    · simp [e1, e2]
    · simp [e1, e2]
theorem Bld.grown_box {w1 : World} {o : Obj} (h : Bld w B Bo gk gp gf ge x0 x1 x2 x3 vO n ls es Lp Lf Le) (hg : (w.alloc o).grownBy w1 vO.ownBlock) : w1.heap[gk]? = w.heap[gk]? := by
  have hl := h.lt
  rw [hg.block gk (by simp; omega) (fun e => by
    obtain ⟨-, -, c, hc⟩ := row_lt h.out.row e.symm
    exact blk_ne h.box hc (by decide) rfl)]
  exact Below.heap_alloc _ _ _ hl
/-- an access without rows more, its slice stored -/
theorem Bld.push {w1 : World} {k b q : Int} {v1 : Value} {o : Obj} (h : Bld w B Bo gk gp gf ge x0 x1 x2 x3 vO n ls es Lp Lf Le)
    (hown : w1.ownsRow Bo 37 5 v1 (ls.length + 1) ((List.zipWith acC ls es).flatten ++ [.int .i64 k, .int .i64 b, .int .i64 q, .slice none 0 0, .slice none 0 0])) (hg : (w.alloc o).grownBy w1 vO.ownBlock) :
    w1.heap[gk]? = some (.cells #[x0, x1, x2, x3, vO, .slice (some ⟨gp, 0, none⟩) n n, .slice (some ⟨gf, 0, none⟩) n n, .slice (some ⟨ge, 0, none⟩) n n] 68 (0, 0)) ∧
    Bld (w1.setCell ⟨gk, 4, none⟩ v1) B Bo gk gp gf ge x0 x1 x2 x3 v1 n (ls ++ [⟨k, b, q, [], []⟩]) (es ++ [⟨.slice none 0 0, .slice none 0 0⟩]) Lp Lf Le := by
  have hb := But.grown h.out.row hg
  have hbox := (h.grown_box hg).trans h.box
  have hp : OwnN w1 B gp n Lp := hb.row (by decide) h.p
  have hf : OwnN w1 B gf n Lf := hb.row (by decide) h.f
  have he : OwnN w1 B ge n Le := hb.row (by decide) h.e
  have ho := h.out.bare (Bi := Bo) hown hg
  have hne : ∀ {g : Nat} {l : List Int}, OwnN w1 B g n l → gk ≠ g := fun hg => by
    obtain ⟨c, hc⟩ := hg.blk
    exact blk_ne hbox hc (by decide)
  refine ⟨hbox, ⟨set_heap hbox, h.low, h.bo, ho.far (fun k hk => Below.heap_setCell _ _ _ _ ?_) (fun i e k he hk => Below.heap_setCell _ _ _ _ ?_), hp.keep (Below.heap_setCell _ _ _ _ (hne hp).symm), hf.keep (Below.heap_setCell _ _ _ _ (hne hf).symm), he.keep (Below.heap_setCell _ _ _ _ (hne he).symm), h.pf, h.pe, h.fe, fun i e k he hk => ?_⟩⟩
  · obtain ⟨-, -, c, hc⟩ := row_lt ho.row hk
    exact blk_ne hc hbox (by decide)
  · obtain ⟨-, -, c, hc⟩ := ho.in_lt he hk
    exact blk_ne hc hbox (by decide)
  · rcases Nat.lt_or_ge i es.length with hl | hl
    · rw [List.getElem?_append_left hl] at he
      exact h.sep i e k he hk
    · rw [List.getElem?_append_right hl] at he
      have e0 : i - es.length = 0 := by have := (List.getElem?_eq_some_iff.1 he).1; simp at this; omega
      rw [e0] at he
      cases he
      rcases hk with hk | hk <;> cases hk
theorem Bld.start (hbox : w.heap[gk]? = some (.cells #[x0, x1, x2, x3, .slice none 0 0, .slice (some ⟨gp, 0, none⟩) n n, .slice (some ⟨gf, 0, none⟩) n n, .slice (some ⟨ge, 0, none⟩) n n] 68 (0, 0))) (hl : B ≤ gk) (hbo : B ≤ Bo)
    (hp : OwnN w B gp n Lp) (hf : OwnN w B gf n Lf) (he : OwnN w B ge n Le) (h1 : gp ≠ gf) (h2 : gp ≠ ge) (h3 : gf ≠ ge) : Bld w B Bo gk gp gf ge x0 x1 x2 x3 (.slice none 0 0) n [] [] Lp Lf Le :=
  ⟨hbox, hl, hbo, OwnAc.nil_, hp, hf, he, h1, h2, h3, fun i e k h => by simp at h⟩
/-- the out row made by a literal of one access -/
theorem Bld.first {cs : Array Value} {k b q : Int} (h : Bld w B Bo gk gp gf ge x0 x1 x2 x3 (.slice none 0 0) n [] [] Lp Lf Le) (hcs : cs = #[.int .i64 k, .int .i64 b, .int .i64 q, .slice none 0 0, .slice none 0 0]) :
    Bld ((w.alloc (.cells cs 37)).setCell ⟨gk, 4, none⟩ (.slice (some ⟨w.heap.size, 0, none⟩) 1 1)) B w.heap.size gk gp gf ge x0 x1 x2 x3 (.slice (some ⟨w.heap.size, 0, none⟩) 1 1) n [⟨k, b, q, [], []⟩] [⟨.slice none 0 0, .slice none 0 0⟩] Lp Lf Le := by
  subst hcs
  have h1 := h.below (bk w (.cells #[.int .i64 k, .int .i64 b, .int .i64 q, .slice none 0 0, .slice none 0 0] 37))
  have hl := h.lt
  have hrow : (w.alloc (.cells #[.int .i64 k, .int .i64 b, .int .i64 q, .slice none 0 0, .slice none 0 0] 37)).ownsRow w.heap.size 37 5 (.slice (some ⟨w.heap.size, 0, none⟩) 1 1) 1 [.int .i64 k, .int .i64 b, .int .i64 q, .slice none 0 0, .slice none 0 0] :=
    ⟨rfl, .inr ⟨w.heap.size, 1, _, rfl, Nat.le_refl _, box_top _ _, Nat.le_refl _, by unfold maxLen; omega, rfl, rfl⟩⟩
  have hgN : ∀ {g : Nat} {l : List Int}, OwnN w B g n l → gk ≠ g := fun hg => h.ne hg
  refine ⟨set_heap h1.box, h.low, by have := h.low; omega, ⟨rfl, row_kept hrow fun k hk => Below.heap_setCell _ _ _ _ ?_, fun i x e hx he => ?_, fun i j e e' g hi hj hij hg => ?_, fun i e he g hg => ?_⟩, h1.p.keep (Below.heap_setCell _ _ _ _ (h.ne h.p).symm), h1.f.keep (Below.heap_setCell _ _ _ _ (h.ne h.f).symm), h1.e.keep (Below.heap_setCell _ _ _ _ (h.ne h.e).symm), h.pf, h.pe, h.fe, fun i e k he hk => ?_⟩
  · cases hk; show w.heap.size ≠ gk; omega
  · cases i with
    | zero => cases hx; cases he; exact ⟨OwnI.nil_, OwnI.nil_⟩
    | succ i => simp at hx
  · cases i with
    | zero => cases hi; rcases hg with hg | hg <;> cases hg
    | succ i => simp at hi
  · cases i with
    | zero => cases he; cases hg
    | succ i => simp at he
  · cases i with
    | zero => cases he; rcases hk with hk | hk <;> cases hk
    | succ i => simp at he
end
/-- the builder as it is made: three rows of noughts and the block, in whatever order the rows came -/
theorem bld_made (W : World) (n gp gf ge : Nat) (x0 x1 x2 x3 : Value) (hn : n ≤ 2000000) (hp : W.heap.size ≤ gp ∧ gp < W.heap.size + 3) (hf : W.heap.size ≤ gf ∧ gf < W.heap.size + 3) (he : W.heap.size ≤ ge ∧ ge < W.heap.size + 3) (h1 : gp ≠ gf) (h2 : gp ≠ ge) (h3 : gf ≠ ge) :
    Bld ((((W.alloc (.cells (madeCells #[.int .i64 0] n) 3)).alloc (.cells (madeCells #[.int .i64 0] n) 3)).alloc (.cells (madeCells #[.int .i64 0] n) 3)).alloc (.cells #[x0, x1, x2, x3, .slice none 0 0, .slice (some ⟨gp, 0, none⟩) n n, .slice (some ⟨gf, 0, none⟩) n n, .slice (some ⟨ge, 0, none⟩) n n] 68)).drew
      W.heap.size W.heap.size (W.heap.size + 1 + 1 + 1) gp gf ge x0 x1 x2 x3 (.slice none 0 0) n [] [] (List.replicate n 0) (List.replicate n 0) (List.replicate n 0) := by
  have key : ∀ g, W.heap.size ≤ g ∧ g < W.heap.size + 3 → ((((W.alloc (.cells (madeCells #[.int .i64 0] n) 3)).alloc (.cells (madeCells #[.int .i64 0] n) 3)).alloc (.cells (madeCells #[.int .i64 0] n) 3)).alloc (.cells #[x0, x1, x2, x3, .slice none 0 0, .slice (some ⟨gp, 0, none⟩) n n, .slice (some ⟨gf, 0, none⟩) n n, .slice (some ⟨ge, 0, none⟩) n n] 68)).heap[g]? = some (.cells (madeCells #[.int .i64 0] n) 3 (0, 0)) := fun g hg => by
    rw [Below.heap_alloc _ _ _ (by simp; omega)]
    rcases (show g = W.heap.size ∨ g = W.heap.size + 1 ∨ g = W.heap.size + 1 + 1 by omega) with rfl | rfl | rfl
    · rw [Below.heap_alloc _ _ _ (by simp; omega), Below.heap_alloc _ _ _ (by simp)]
      exact box_top _ _
    · rw [Below.heap_alloc _ _ _ (by simp)]
      exact box_at _ (by simp)
    · exact box_at _ (by simp)
  have hrow : ∀ g, W.heap.size ≤ g ∧ g < W.heap.size + 3 → OwnN ((((W.alloc (.cells (madeCells #[.int .i64 0] n) 3)).alloc (.cells (madeCells #[.int .i64 0] n) 3)).alloc (.cells (madeCells #[.int .i64 0] n) 3)).alloc (.cells #[x0, x1, x2, x3, .slice none 0 0, .slice (some ⟨gp, 0, none⟩) n n, .slice (some ⟨gf, 0, none⟩) n n, .slice (some ⟨ge, 0, none⟩) n n] 68)).drew W.heap.size g n (List.replicate n 0) := fun g hg => made_zeros
    ⟨by rw [toList_madeCells_one]; simp, .inr ⟨g, n, _, rfl, hg.1, key g hg, Nat.le_refl _, by unfold maxLen; omega, by simp [madeCells], by rw [List.take_of_length_le (by rw [toList_madeCells_one]; simp)]⟩⟩
  exact Bld.start (box_at _ (by simp)) (by omega) (Nat.le_refl _) (hrow gp hp) (hrow gf hf) (hrow ge he) h1 h2 h3
theorem Only.grown {S : Nat → Prop} {B : Nat} {a w w1 : World} {blk : Option Nat} (h : Only S B a w) (hB : B ≤ w.heap.size) (hg : w.grownBy w1 blk) (hb : ∀ k, blk = some k → S k ∨ B ≤ k) : Only S B a w1 :=
  h.trans ⟨hg.os, hg.tape, hg.output, hg.size, fun k hk hs => hg.block k (by omega) (fun e => by
    rcases hb k e.symm with h1 | h1
    · exact hs h1
    · omega)⟩
/-- accesses without rows of their own -/
def neA (ls : List Ac) : List AcV := ls.map fun _ => ⟨.slice none 0 0, .slice none 0 0⟩
theorem neA_snoc (ls : List Ac) (a : Ac) : neA (ls ++ [a]) = neA ls ++ [⟨.slice none 0 0, .slice none 0 0⟩] := by simp [neA]
/-- memssa.lay at block k -/
structure LayK (bs : List (List Ins)) (H : Nat → Bool) (O : List Int) (k : Nat) (Lp Lf Le : List Int) : Prop where
  p : ∀ b : Nat, b < k → Lp[b]? = some (if (b : Int) ∈ O ∧ H b = true then ((laidA bs H O b).length : Int) else -1)
  f : ∀ b : Nat, b < k → (b : Int) ∈ O → Lf[b]? = some (((laidA bs H O b).length + (if H b = true then 1 else 0) : Nat) : Int)
  e : ∀ b : Nat, b < k → Le[b]? = some (-1)
theorem LayK.next {bs : List (List Ins)} {H : Nat → Bool} {O : List Int} {k : Nat} {Lp Lf Le Lp' Lf' Le' : List Int} (h : LayK bs H O k Lp Lf Le) (hp : ∀ b, b < k → Lp'[b]? = Lp[b]?) (hf : ∀ b, b < k → Lf'[b]? = Lf[b]?) (he : ∀ b, b < k → Le'[b]? = Le[b]?)
    (h1 : Lp'[k]? = some (if (k : Int) ∈ O ∧ H k = true then ((laidA bs H O k).length : Int) else -1)) (h2 : (k : Int) ∈ O → Lf'[k]? = some (((laidA bs H O k).length + (if H k = true then 1 else 0) : Nat) : Int)) (h3 : Le'[k]? = some (-1)) : LayK bs H O (k + 1) Lp' Lf' Le' := by
  refine ⟨fun b hb => ?_, fun b hb ho => ?_, fun b hb => ?_⟩
  · rcases Nat.lt_succ_iff_lt_or_eq.1 hb with h4 | h4
    · rw [hp b h4]; exact h.p b h4
    · subst h4; exact h1
  · rcases Nat.lt_succ_iff_lt_or_eq.1 hb with h4 | h4
    · rw [hf b h4]; exact h.f b h4 ho
    · subst h4; exact h2 ho
  · rcases Nat.lt_succ_iff_lt_or_eq.1 hb with h4 | h4
    · rw [he b h4]; exact h.e b h4
    · subst h4; exact h3
/-- what memssa.lay answers -/
def LayPost (f : Fun) (x1 x3 : Value) (bs : List (List Ins)) (H : Nat → Bool) (O : List Int) (n : Nat) (w : World) (e : Ending) (w' : World) : Prop :=
  ∃ Bo gk gp gf ge vO Lp Lf Le, e = .returned (.pointer (some ⟨gk, 0, none⟩)) ∧ Bld w' w.heap.size Bo gk gp gf ge (.string f.name) x1 (.int .i64 f.ret) x3 vO n (if n = 0 then [] else laidA bs H O n) (neA (if n = 0 then [] else laidA bs H O n)) Lp Lf Le ∧ (0 < n → LayK bs H O n Lp Lf Le) ∧ Below w.heap.size w w'
end Go.Proofs.Yteeclobpajalmaa
