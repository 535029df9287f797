/- Texts of the chain, without what is not wanted: TdL. No condition but sizes. -/
import Derived.WalkKit
import Derived.Deep.Slices
import Derived.Deep.Draws
import Derived.ChangeSame
import Derived.ChangeOld
import Derived.OwnWalk
import Derived.Laws.OwnMore
import Derived.Deep.AppendLies
import Derived.Test.YtamjcafjdioidaaRows
import Derived.ProofKit
import Derived.OpenShut
import Derived.JoinedCond
import Derived.WalkSpells
import Derived.WalkLawsBesides
import Derived.Deep.RegionHeld3
import Derived.Deep.LoopGhost
import Derived.Deep.QuietTactic
import Derived.BigQuiet
import Derived.Deep.DeepCutAuto
import Derived.Deep.CutBlock
import Derived.StillTailTactics
import Derived.Deep.RegionLaw
import Derived.Lib.SliceRun
import Derived.Laws.IdiomCopy
import Derived.Deep.MidRow
import Derived.Lib.Overlaps
import Derived.RegionTactic
import Derived.Test.YtamjcafjdioidaaUz01
import Derived.Test.YtamjcafjdioidaaUz02
import Derived.Test.YtamjcafjdioidaaUz03
import Derived.Test.YtamjcafjdioidaaUz04
import Derived.Test.YtamjcafjdioidaaUz05
import Derived.Test.YtamjcafjdioidaaUz06
import Derived.Test.YtamjcafjdioidaaUz07
import Derived.Test.YtamjcafjdioidaaUz08
import Derived.Test.YtamjcafjdioidaaUz09
import Derived.Test.YtamjcafjdioidaaUz10
import Derived.Test.YtamjcafjdioidaaUz11
import Derived.Test.YtamjcafjdioidaaUz12
import Derived.Test.YtamjcafjdioidaaUz13
import Derived.Test.YtamjcafjdioidaaUz14
import Derived.Test.YtamjcafjdioidaaUz15
import Derived.Test.YtamjcafjdioidaaUz16
import Derived.Test.YtamjcafjdioidaaUz17
import Derived.Test.YtamjcafjdioidaaUz18
import Derived.Test.YtamjcafjdioidaaUz19
import Derived.Test.YtamjcafjdioidaaUz20
import Derived.Test.YtamjcafjdioidaaUz21
import Derived.Test.YtamjcafjdioidaaUz22
namespace Go.Proofs.Ytamjcafjdioidaa
open Go.RowKit
set_option linter.unusedSimpArgs false
set_option linter.unusedVariables false
theorem setCell_heap2 {w w' : World} {p : Addr} {v : Value} {k : Nat} (h : w.heap[k]? = w'.heap[k]?) : (w.setCell p v).heap[k]? = (w'.setCell p v).heap[k]? := by
 simp only [World.setCell, Array.getElem?_modify, h]
def Vt (gd b : Nat) (w : World) : World := w.setCell ⟨gd, b, none⟩ (.slice none 0 0)
theorem Vt_heap {gd b k : Nat} {w : World} (h : k ≠ gd) : (Vt gd b w).heap[k]? = w.heap[k]? := Below.heap_setCell w ⟨gd, b, none⟩ (.slice none 0 0) k h
theorem Vt_size {gd b : Nat} {w : World} : (Vt gd b w).heap.size = w.heap.size := by unfold Vt; simp
theorem Vt_same {gd b k : Nat} {w w' : World} (h : w'.heap[k]? = w.heap[k]?) : (Vt gd b w').heap[k]? = (Vt gd b w).heap[k]? := setCell_heap2 h
theorem Vt_cell {gd b k j : Nat} {w : World} (h : k ≠ gd) : (Vt gd b w).cell? ⟨k, j, none⟩ = w.cell? ⟨k, j, none⟩ := World.cell?_of_block (w := w) (Vt_heap h)
theorem Vt_at {gd b j : Nat} {w : World} (h : j ≠ b) : (Vt gd b w).cell? ⟨gd, j, none⟩ = w.cell? ⟨gd, j, none⟩ := World.cell?_setCell_other w ⟨gd, b, none⟩ ⟨gd, j, none⟩ _ (by intro e; injection e with e1 e2; exact h e2.symm)
theorem movI_scalars (p q : Int) (x : Ins) : (movI p q x).op = x.op ∧ (movI p q x).reg = x.reg ∧ (movI p q x).ty = x.ty ∧ (movI p q x).num = x.num ∧ (movI p q x).flags = x.flags := by
 unfold movI
 split <;> exact ⟨rfl, rfl, rfl, rfl, rfl⟩
theorem movI_ok {p q : Int} {x : Ins} (h : InsOk x) : InsOk (movI p q x) := by
 obtain ⟨e1, e2, e3, e4, e5⟩ := movI_scalars p q x
 unfold InsOk at h ⊢
 rw [e1, e2, e3, e4, e5]
 exact h
theorem cells_56 {l : List Ins} {es : List (Value × Value)} {i : Nat} {x x' : Ins} {ca ct c t : Value} (hl : l[i]? = some x) (he : es[i]? = some (ca, ct)) (hlen : es.length = l.length) (hs : x'.op = x.op ∧ x'.reg = x.reg ∧ x'.ty = x.ty ∧ x'.num = x.num ∧ x'.flags = x.flags) :
  ((cellsOf l es).set (i * 7 + 5) c).set (i * 7 + 6) t = cellsOf (l.set i x') (es.set i (c, t)) := by
 have hi := (List.getElem?_eq_some_iff.1 hl).1
 obtain ⟨e1, e2, e3, e4, e5⟩ := hs
 have a5 := cells_set (j := 5) (x' := x) (e' := (c, ct)) (u := c) hl he hlen (by omega) rfl
 have a6 := cells_set (i := i) (j := 6) (l := l.set i x) (es := es.set i (c, ct)) (x := x) (e := (c, ct)) (x' := x') (e' := (c, t)) (u := t) (by rw [List.getElem?_set_self hi]) (by rw [List.getElem?_set_self (by omega)]) (by simp [hlen]) (by omega) (by unfold insC; rw [e1, e2, e3, e4, e5]; rfl)
 rw [a5, a6, List.set_set, List.set_set]
theorem cellsOf_append {l1 l2 : List Ins} {e1 e2 : List (Value × Value)} (h : e1.length = l1.length) : cellsOf (l1 ++ l2) (e1 ++ e2) = cellsOf l1 e1 ++ cellsOf l2 e2 := by
 unfold cellsOf
 rw [List.zipWith_append h.symm, List.flatten_append]
theorem cellsOf_len7 : ∀ {l : List Ins} {es : List (Value × Value)}, es.length = l.length → (cellsOf l es).length = l.length * 7
 | [], es, _ => by simp [cellsOf]
 | x :: l, [], h => by simp at h
 | x :: l, e :: es, h => by
  have h0 : cellsOf (x :: l) (e :: es) = insC x e.1 e.2 ++ cellsOf l es := by simp [cellsOf]
  have h7 : (insC x e.1 e.2).length = 7 := rfl
  rw [h0, List.length_append, h7, cellsOf_len7 (by simpa using h), List.length_cons]
  omega
theorem cellsOf_front {l : List Ins} {es : List (Value × Value)} (h : es.length = l.length) (hl : l ≠ []) : (cellsOf l es).take ((l.length - 1) * 7) = cellsOf l.dropLast es.dropLast := by
 have he : es ≠ [] := fun e => hl (List.eq_nil_of_length_eq_zero (by rw [← h, e]; rfl))
 have h1 : cellsOf l es = cellsOf l.dropLast es.dropLast ++ cellsOf [l.getLast hl] [es.getLast he] := by
  rw [← cellsOf_append (by simp [h]), List.dropLast_concat_getLast, List.dropLast_concat_getLast]
 have h2 : (cellsOf l.dropLast es.dropLast).length = (l.length - 1) * 7 := by rw [cellsOf_len7 (by simp [h]), List.length_dropLast]
 rw [h1, ← h2, List.take_left]
theorem OwnCd.one_cells {w : World} {B : Nat} {v : Value} {l : List Ins} {es : List (Value × Value)} (h : OwnCd w B v l es) : ∀ u, u ∈ cellsOf l es → u.oneCell' = true := cells_one l es fun e he9 => by
 obtain ⟨q, hq⟩ := List.mem_iff_getElem?.1 he9
 have hql := (List.getElem?_eq_some_iff.1 hq).1
 obtain ⟨g1, g2, -⟩ := h.inn q _ e (List.getElem?_eq_getElem (by rw [← h.len]; exact hql)) hq
 obtain ⟨A1, C1, e1⟩ := row_form g1.row
 obtain ⟨A2, C2, e2⟩ := row_form g2.row
 rw [e1, e2]
 exact ⟨rfl, rfl⟩
theorem MF.turn {w w' : World} {T T' : Nat → Prop} {N : Nat} {f : Fun} {c d : Value} {bs : List (List Ins)} {xs : List Value} {ess : List (List (Value × Value))} (h : MF w T N f c d) (hk : ∀ k, k < w.heap.size → k = N ∨ c.ownBlock = some k → w'.heap[k]? = w.heap[k]?) (ht : OwnKd w' 0 d bs xs ess) (hT : ∀ k, TB d xs ess k → T' k) (hN : ¬ T' N) (hc : ∀ k, c.ownBlock = some k → ¬ T' k) : MF w' T' N (setBlocks f bs) c d :=
 ⟨(hk N h.lt (.inl rfl)).trans h.box, ⟨xs, ess, ht, hT⟩, ⟨row_kept h.par.row fun k hv => hk k (row_lt h.par.row hv).2.1 (.inr hv), h.par.ok⟩, fun k hv => ⟨hc k hv, (h.far k hv).2⟩, hN, h.ret, h.nm⟩
theorem Vt_ins {w : World} {gd n C b K gc m Cx i : Nat} {bs : List (List Ins)} {xs : List Value} {ess : List (List (Value × Value))} {l : List Ins} {es : List (Value × Value)} {x : Ins} {ca ct : Value} (h : OwnKd (Vt gd b w) 0 (.slice (some ⟨gd, 0, none⟩) n C) bs xs ess) (hb : bs[K]? = some l) (hx : xs[K]? = some (.slice (some ⟨gc, 0, none⟩) m Cx)) (he : ess[K]? = some es) (hi : l[i]? = some x) (hei : es[i]? = some (ca, ct)) :
  gc ≠ gd ∧ w.ownsRow 0 39 7 (.slice (some ⟨gc, 0, none⟩) m Cx) m (cellsOf l es) ∧ OwnV w 0 ca x.args ∧ OwnI w 0 ct x.to ∧ InsOk x ∧ w.cell? ⟨gc, i * 7, none⟩ = some (.int .i64 x.op) ∧ (cellsOf l es)[i * 7 + 5]? = some ca ∧ (cellsOf l es)[i * 7 + 6]? = some ct := by
 have hcd := h.inn K _ l es hx hb he
 obtain ⟨g1, g2, g3⟩ := hcd.inn i x _ hi hei
 have tyD := (row_lt h.row rfl).2.2
 have tyC := (row_lt hcd.row rfl).2.2
 have ne : gc ≠ gd := ty_ne tyC tyD (by decide)
 have hm : m = l.length := by
  rcases hcd.row.2 with ⟨e, _⟩ | ⟨g, cap, cur, e, _⟩
  ·cases e
  ·cases e; rfl
 subst hm
 have hil := (List.getElem?_eq_some_iff.1 hi).1
 refine ⟨ne, row_kept hcd.row fun k hk => (Vt_heap (by cases hk; exact ne)).symm, ⟨row_kept g1.row fun k hk => (Vt_heap (ty_ne (row_lt g1.row hk).2.2 tyD (by decide))).symm, g1.ok⟩, ⟨row_kept g2.row fun k hk => (Vt_heap (ty_ne (row_lt g2.row hk).2.2 tyD (by decide))).symm, g2.ok⟩, g3, ?_, ?_, ?_⟩
 ·rw [← Vt_cell (gd := gd) (b := b) ne]
  exact hcd.cell_at hi hei (j := 0) rfl
 ·rw [cellsOf_get, show (i * 7 + 5) / 7 = i by omega, show (i * 7 + 5) % 7 = 5 by omega, hi, hei]; rfl
 ·rw [cellsOf_get, show (i * 7 + 6) / 7 = i by omega, show (i * 7 + 6) % 7 = 6 by omega, hi, hei]; rfl
theorem MF.moved {wr w' : World} {T' : Nat → Prop} {N gd n C b K gc m Cx i : Nat} {g : Fun} {c : Value} {xs : List Value} {ess : List (List (Value × Value))} {l : List Ins} {es : List (Value × Value)} {x : Ins} {ca ct : Value} {p q : Int} {e : Ending} (h : MF (Vt gd b wr) T' N g c (.slice (some ⟨gd, 0, none⟩) n C)) (hk : OwnKd (Vt gd b wr) 0 (.slice (some ⟨gd, 0, none⟩) n C) g.blocks xs ess) (hT : ∀ k, TB (.slice (some ⟨gd, 0, none⟩) n C) xs ess k → T' k)
  (hb : g.blocks[K]? = some l) (hx : xs[K]? = some (.slice (some ⟨gc, 0, none⟩) m Cx)) (he : ess[K]? = some es) (hi : l[i]? = some x) (hei : es[i]? = some (ca, ct)) (hp : MovPost wr gc m Cx i (cellsOf l es) p q x ca ct e w') :
  MF (Vt gd b w') T' N (setBlocks g (g.blocks.set K (l.set i (movI p q x)))) c (.slice (some ⟨gd, 0, none⟩) n C) ∧ Only (fun k => T' k ∧ k ≠ gd) wr.heap.size wr w' := by
 obtain ⟨-, ca', ct', hV, hI, o1, o2, hrow, hon⟩ := hp
 obtain ⟨ne, hr, hva, hvt, hok, -, -, -⟩ := Vt_ins hk hb hx he hi hei
 have hcd := hk.inn K _ l es hx hb he
 have tyD := (row_lt hk.row rfl).2.2
 obtain ⟨g1, g2, -⟩ := hcd.inn i x _ hi hei
 have Tgc : T' gc := hT gc (.inr (.inl ⟨_, List.mem_of_getElem? hx, rfl⟩))
 have Tca : ∀ k, ca.ownBlock = some k → T' k ∧ k ≠ gd := fun k hk9 => ⟨hT k (.inr (.inr ⟨es, _, List.mem_of_getElem? he, List.mem_of_getElem? hei, .inl hk9⟩)), ty_ne (row_lt g1.row hk9).2.2 tyD (by decide)⟩
 have Tct : ∀ k, ct.ownBlock = some k → T' k ∧ k ≠ gd := fun k hk9 => ⟨hT k (.inr (.inr ⟨es, _, List.mem_of_getElem? he, List.mem_of_getElem? hei, .inr hk9⟩)), ty_ne (row_lt g2.row hk9).2.2 tyD (by decide)⟩
 have hon2 : Only (fun k => T' k ∧ k ≠ gd) wr.heap.size wr w' := hon.more fun k _ hk9 => by
  rcases hk9 with h1 | h1 | h1
  ·subst h1; exact ⟨Tgc, ne⟩
  ·exact Tca k h1
  ·exact Tct k h1
 have hsz := @Vt_size gd b wr
 refine ⟨?_, hon2⟩
 have hrow2 : (Vt gd b w').ownsRow 0 39 7 (.slice (some ⟨gc, 0, none⟩) m Cx) m (cellsOf (l.set i (movI p q x)) (es.set i (ca', ct'))) := by
  rw [← cells_56 hi hei hcd.len (movI_scalars p q x)]
  exact row_kept hrow fun k hk9 => Vt_heap (by cases hk9; exact ne)
 have hV2 : OwnV (Vt gd b w') 0 ca' (movI p q x).args := ⟨row_kept hV.row fun k hk9 => Vt_heap (by rw [o1] at hk9; exact (Tca k hk9).2), hV.ok⟩
 have hI2 : OwnI (Vt gd b w') 0 ct' (movI p q x).to := ⟨row_kept hI.row fun k hk9 => Vt_heap (by rw [o2] at hk9; exact (Tct k hk9).2), hI.ok⟩
 have hkd := hk.put_ins (w' := Vt gd b w') hb hx he hi hei hrow2 hV2 hI2 (movI_ok hok) (fun k hk9 => .inl (by rwa [o1] at hk9)) (fun k hk9 => .inl (by rwa [o2] at hk9)) (fun k h1 h2 h3 h4 => by
  refine Vt_same (hon.block k (by rwa [hsz] at h1) ?_)
  rintro (h5 | h5 | h5)
  ·exact h2 h5
  ·exact h3 h5
  ·exact h4 h5)
 refine h.turn (fun k h1 h2 => Vt_same (hon.block k (by rwa [hsz] at h1) ?_)) hkd (fun k hk9 => ?_) h.out fun k hk9 => (h.far k hk9).1
 ·have hnT : ¬ T' k := by
   rcases h2 with h2 | h2
   ·subst h2; exact h.out
   ·exact (h.far k h2).1
  rintro (h5 | h5 | h5)
  ·subst h5; exact hnT Tgc
  ·exact hnT (Tca k h5).1
  ·exact hnT (Tct k h5).1
 ·rcases hk9 with h1 | h1 | ⟨a, z, h1, h2, h3⟩
  ·exact hT k (.inl h1)
  ·exact hT k (.inr (.inl h1))
  ·rcases List.mem_or_eq_of_mem_set h1 with h4 | h4
   ·exact hT k (.inr (.inr ⟨a, z, h4, h2, h3⟩))
   ·subst h4
    rcases List.mem_or_eq_of_mem_set h2 with h5 | h5
    ·exact hT k (.inr (.inr ⟨es, z, List.mem_of_getElem? he, h5, h3⟩))
    ·subst h5
     rcases h3 with h3 | h3
     ·exact (Tca k (by rw [← o1]; exact h3)).1
     ·exact (Tct k (by rw [← o2]; exact h3)).1
theorem MF.joined {V V1 : World} {T : Nat → Prop} {N gd n C a b gv mv Cv gb mb Cb : Nat} {f : Fun} {c : Value} {xs : List Value} {ess : List (List (Value × Value))} {la lb : List Ins} {ea eb : List (Value × Value)} (h : MF V T N f c (.slice (some ⟨gd, 0, none⟩) n C)) (hk : OwnKd V 0 (.slice (some ⟨gd, 0, none⟩) n C) f.blocks xs ess) (hT : ∀ k, TB (.slice (some ⟨gd, 0, none⟩) n C) xs ess k → T k)
  (ha : f.blocks[a]? = some la) (hb : f.blocks[b]? = some lb) (hea : ess[a]? = some ea) (heb : ess[b]? = some eb) (hxb : xs[b]? = some (.slice (some ⟨gb, 0, none⟩) mb Cb)) (hab : a ≠ b) (hla : la ≠ []) (hbel : Below V.heap.size V V1)
  (hv : V1.ownsRow V.heap.size 39 7 (.slice (some ⟨gv, 0, none⟩) mv Cv) mv (cellsOf la.dropLast ea.dropLast ++ cellsOf lb eb)) (hTs : ∀ k, T k → k < V.heap.size) :
  MF (Vt gd b (V1.setCell ⟨gd, a, none⟩ (.slice (some ⟨gv, 0, none⟩) mv Cv))) (fun k => (T k ∨ k = gv) ∧ k ≠ gb) N (setBlocks f (mgJoin f.blocks a b)) c (.slice (some ⟨gd, 0, none⟩) n C) := by
 have hgd : gd < V.heap.size := (row_lt hk.row rfl).2.1
 have tyD := (row_lt hk.row rfl).2.2
 have hgv := row_lt hv rfl
 have hca := (hk.row_at ha)
 have hcb := (hk.row_at hb)
 obtain ⟨xa, ea', hxa, hea', hca⟩ := hca
 obtain ⟨xb, eb', hxb', heb', hcb⟩ := hcb
 rw [hea] at hea'
 rw [heb] at heb'
 rw [hxb] at hxb'
 cases hea'; cases heb'; cases hxb'
 have tyB := (row_lt hcb.row rfl).2.2
 have hgb : gb < V.heap.size := (row_lt hcb.row rfl).2.1
 have hTgb : T gb := hT gb (.inr (.inl ⟨_, List.mem_of_getElem? hxb, rfl⟩))
 have hTgd : T gd := hT gd (.inl rfl)
 have hlv : (la.dropLast ++ lb).length = mv := by
  have h1 := hv.1
  rw [List.length_append, cellsOf_len7 (by simp [hca.len]), cellsOf_len7 hcb.len] at h1
  rw [List.length_append]
  omega
 have hgv1 : V.heap.size ≤ gv := hgv.1
 have ngv : gv ≠ gd := by omega
 have hmj : mgJoin f.blocks a b = (f.blocks.set a (la.dropLast ++ lb)).set b [] := by
  unfold mgJoin
  rw [List.getD_eq_getElem?_getD, ha, List.getD_eq_getElem?_getD, hb]
  rfl
 rw [hmj]
 have hro1 : V1.ownsRow 0 36 1 (.slice (some ⟨gd, 0, none⟩) n C) n xs := by
  have hn : n = f.blocks.length := by
   rcases hk.row.2 with ⟨e, -⟩ | ⟨g, cap, cur, e, -⟩
   ·cases e
   ·cases e; rfl
  have := hk.row
  rw [← hn] at this
  exact row_kept this fun k hk9 => hbel.block k (row_lt this hk9).2.1
 have hro2 := (World.ownsRow.stored (World.ownsRow.stored hro1 a (.slice (some ⟨gv, 0, none⟩) mv Cv)).1 b (.slice none 0 0)).1
 have hkeep : ∀ k, k < V.heap.size → k ≠ gd → (Vt gd b (V1.setCell ⟨gd, a, none⟩ (.slice (some ⟨gv, 0, none⟩) mv Cv))).heap[k]? = V.heap[k]? := fun k h1 h2 => by
  rw [Vt_heap h2, Below.heap_setCell V1 ⟨gd, a, none⟩ _ k h2]
  exact hbel.block k h1
 have hj := hk.join (w' := Vt gd b (V1.setCell ⟨gd, a, none⟩ (.slice (some ⟨gv, 0, none⟩) mv Cv))) (v := .slice (some ⟨gv, 0, none⟩) mv Cv) ha hb hea heb hab hla hro2 (by
  rw [hlv, cellsOf_append (by simp [hca.len])]
  refine row_mono (row_kept hv fun k hk9 => ?_) (Nat.zero_le _)
  cases hk9
  rw [Vt_heap ngv]
  exact Below.heap_setCell V1 ⟨gd, a, none⟩ _ gv ngv) (fun k hk9 => by cases hk9; exact hgv.1) hkeep
 refine h.turn (fun k h1 h2 => hkeep k h1 ?_) hj (fun k hk9 => ?_) ?_ fun k hk9 => ?_
 ·intro e
  subst e
  rcases h2 with h2 | h2
  ·subst h2; exact h.out hTgd
  ·exact (h.far _ h2).1 hTgd
 ·rcases hk9 with h1 | ⟨x, hx, h1⟩ | ⟨es, e, he, hee, h1⟩
  ·have e1 : gd = k := by simpa [Value.ownBlock] using h1
   subst e1
   exact ⟨.inl hTgd, ty_ne tyD tyB (by decide)⟩
  ·rcases List.mem_or_eq_of_mem_set hx with h2 | h2
   ·obtain ⟨j, hj9⟩ := List.mem_iff_getElem?.1 hx
    have hjb : j ≠ b := fun e => by
     subst e
     have hl9 : j < (xs.set a (.slice (some ⟨gv, 0, none⟩) mv Cv)).length := by rw [List.length_set]; exact (List.getElem?_eq_some_iff.1 hxb).1
     rw [List.getElem?_set_self hl9] at hj9
     cases hj9
     cases h1
    rw [List.getElem?_set_ne (Ne.symm hjb)] at hj9
    by_cases hja : j = a
    ·subst hja
     rw [List.getElem?_set_self (List.getElem?_eq_some_iff.1 hxa).1] at hj9
     cases hj9
     have e1 : gv = k := by simpa [Value.ownBlock] using h1
     subst e1
     exact ⟨.inr rfl, by omega⟩
    ·rw [List.getElem?_set_ne (Ne.symm hja)] at hj9
     refine ⟨.inl (hT k (.inr (.inl ⟨x, List.mem_of_getElem? hj9, h1⟩))), fun e => ?_⟩
     subst e
     exact hjb (nd_iff.1 hk.ndx j b x _ k hj9 hxb h1 rfl)
   ·subst h2; cases h1
  ·have hin : ∃ es', es' ∈ ess ∧ e ∈ es' := by
    rcases List.mem_or_eq_of_mem_set he with h2 | h2
    ·rcases List.mem_or_eq_of_mem_set h2 with h3 | h3
     ·exact ⟨es, h3, hee⟩
     ·subst h3
      rcases List.mem_append.1 hee with h4 | h4
      ·exact ⟨ea, List.mem_of_getElem? hea, (List.dropLast_sublist ea).subset h4⟩
      ·exact ⟨eb, List.mem_of_getElem? heb, h4⟩
    ·subst h2; cases hee
   obtain ⟨es', he', hee'⟩ := hin
   refine ⟨.inl (hT k (.inr (.inr ⟨es', e, he', hee', h1⟩))), fun e9 => ?_⟩
   subst e9
   obtain ⟨j, hj9⟩ := List.mem_iff_getElem?.1 he'
   obtain ⟨r, hr9⟩ := List.mem_iff_getElem?.1 hee'
   have hjl := (List.getElem?_eq_some_iff.1 hj9).1
   have l1 := hk.lenx
   have l2 := hk.lene
   have hc9 := hk.inn j _ _ es' (List.getElem?_eq_getElem (by omega)) (List.getElem?_eq_getElem (by omega)) hj9
   have hrl := (List.getElem?_eq_some_iff.1 hr9).1
   have l3 := hc9.len
   obtain ⟨g1, g2, -⟩ := hc9.inn r _ e (List.getElem?_eq_getElem (by omega)) hr9
   rcases h1 with h1 | h1
   ·exact ty_ne (row_lt g1.row h1).2.2 tyB (by decide) rfl
   ·exact ty_ne (row_lt g2.row h1).2.2 tyB (by decide) rfl
 ·rintro ⟨h1 | h1, -⟩
  ·exact h.out h1
  ·have := h.lt; omega
 ·rintro ⟨h1 | h1, -⟩
  ·exact (h.far k hk9).1 h1
  ·have := (row_lt h.par.row hk9).2.1; omega
theorem MF.real {wr w' : World} {T' : Nat → Prop} {N gd b : Nat} {g : Fun} {c d : Value} (h : MF (Vt gd b wr) T' N g c d) (hb : Below wr.heap.size wr w') : MF (Vt gd b w') T' N g c d := h.kept fun k h1 _ => Vt_same (hb.block k (by rwa [Vt_size] at h1))
end Go.Proofs.Ytamjcafjdioidaa
