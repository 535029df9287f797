/- AliasShifts: what the law does with a copied function's first block, in memory; what is fresh. No condition. -/
import Derived.Test.YtamjcafjdioidaaAkC
import Derived.Test.YtamjcafjdioidaaSpl
import Derived.Test.YtamjcafjdioidaaHst
import Derived.Test.YtamjcafjdioidaaIrQ
import Derived.Test.YtamjcafjdioidaaCr
namespace Go.Proofs.Ytamjcafjdioidaa
open Go.RowKit
set_option linter.unusedVariables false

theorem fun_of_own {w w1 : World} {L B : Nat} {c d : Value} {cs : List Value} {f f1 : Fun} (hc : OwnI w L c f.params) (hd : OwnK w L d f.blocks) (hf : RFun.rep w1 B cs f1) (h1 : f.name = f1.name) (h2 : f.ret = f1.ret) : RFun.rep w w.heap.size [.string f.name, c, .int .i64 f.ret, d] f := by
  obtain ⟨_, _, _, -, -, hret, hnm⟩ := hf
  refine ⟨_, _, rfl, hc.rep, hd.rep, ?_, ?_⟩
  · rw [h2]; exact hret
  · rw [h1]; exact hnm
theorem opd_same {a b : Opd} (h1 : a.kind = b.kind) (h2 : a.num = b.num) (h3 : a.bits = b.bits) : a = b := by
  cases a; cases b
  simp_all
theorem OwnK2.toK {w : World} {B : Nat} {v : Value} {bs : List (List Ins)} (h : OwnK2 w B v bs) : OwnK w B v bs := by
  obtain ⟨xs, ess, h⟩ := h
  refine ⟨xs, h.lenx, h.row, fun i x b hx hb => ?_⟩
  have hi := (List.getElem?_eq_some_iff.1 hx).1
  have h2 : i < ess.length := by rw [h.lene, ← h.lenx]; exact hi
  exact (h.inn i x b _ hx hb (List.getElem?_eq_getElem h2)).toC
theorem own_kept2 {w w' : World} {B : Nat} {v : Value} {l : List Int} {Q : Nat → Prop} (h : OwnI w B v l) (ho : Only Q w.heap.size w w') (hQ : ∀ k, v.ownBlock = some k → ¬ Q k) : OwnI w' B v l := ⟨row_kept h.row fun k hv => ho.block k (row_lt h.row hv).2.1 (hQ k hv), h.ok⟩
theorem on_grown {S Q : Nat → Prop} {B : Nat} {a w w1 : World} {blk : Option Nat} (h : Only S B a w) (hB : B ≤ w.heap.size) (hg : w.grownBy w1 blk) (hb : ∀ k, blk = some k → Q k) (hS : ∀ k, S k → Q k) : Only Q B a w1 :=
  (h.more fun k _ => hS k).trans ⟨hg.os, hg.tape, hg.output, hg.size, fun k hk hs => hg.block k (by omega) (fun e => hs (hb k e.symm))⟩
theorem ownV_two {w : World} {L g : Nat} {a b : Opd} (h : w.heap[g]? = some (.cells #[.int .i64 a.kind, .int .i64 a.num, .int .u64 a.bits, .int .i64 b.kind, .int .i64 b.num, .int .u64 b.bits] 42 (0, 0))) (hL : L ≤ g) (ha : I64 a.kind ∧ I64 a.num) (hb : I64 b.kind ∧ I64 b.num) : OwnV w L (.slice (some ⟨g, 0, none⟩) 2 2) [a, b] := by
  refine ⟨⟨rfl, .inr ⟨g, 2, _, rfl, hL, h, Nat.le_refl _, by unfold maxLen; omega, rfl, rfl⟩⟩, fun x hx => ?_⟩
  rcases List.mem_cons.1 hx with rfl | hx
  · exact ha
  · rw [List.mem_singleton.1 hx]; exact hb
theorem six29 : I64 29 := i64_mk (by omega) (by omega)
theorem six65 : I64 65 := i64_mk (by omega) (by omega)
theorem six2 : I64 2 := i64_mk (by omega) (by omega)
theorem six0 : I64 0 := i64_mk (by omega) (by omega)
theorem gep_ok {r z : Int} {p : Opd} (hr : I64 r) : InsOk (gepI r p z) := ⟨six29, hr, six65, six0, six0⟩
section
variable {w w2 w' : World} {L gB n C n0 g' C' kc Cc ga : Nat} {l : List Ins} {rest : List (List Ins)} {p : Opd} {r z : Int} {xs : List Value}
theorem Spl.row {v : Value} (h : Spl w L gB n C v l rest) (hn : n0 = l.length) : ∃ xs, w.ownsRow L 39 7 v n0 xs := by
  obtain ⟨ess, -, h2, -⟩ := h.code
  exact ⟨_, by rw [hn]; exact h2⟩
theorem spl_app1 (h : Spl w L gB n C (.slice (some ⟨kc, 0, none⟩) n0 Cc) l rest) (hn : n0 = l.length) (hb : Below w.heap.size w w2) (hg : w2.grownBy w' (Value.slice (some ⟨kc, 0, none⟩) n0 Cc).ownBlock) (hx : w.ownsRow L 39 7 (.slice (some ⟨kc, 0, none⟩) n0 Cc) n0 xs)
    (hA : w2.heap[ga]? = some (.cells #[.int .i64 p.kind, .int .i64 p.num, .int .u64 p.bits, .int .i64 2, .int .i64 0, .int .u64 z] 42 (0, 0))) (hp : I64 p.kind ∧ I64 p.num) (hr : I64 r) (hL : L ≤ ga)
    (ho : w'.ownsRow L 39 7 (.slice (some ⟨g', 0, none⟩) (n0 + 1) C') (n0 + 1) (xs ++ [.int .i64 29, .int .i64 r, .int .i64 65, .int .i64 0, .int .i64 0, .slice (some ⟨ga, 0, none⟩) 2 2, .slice none 0 0]))
    (hl : (Value.slice (some ⟨kc, 0, none⟩) n0 Cc).ownBlock = some g' ∨ w.heap.size ≤ g') : Spl w' L gB n C (.slice (some ⟨g', 0, none⟩) (n0 + 1) C') (l ++ [gepI r p z]) rest := by
  subst hn
  refine h.app (ns := [(.slice (some ⟨ga, 0, none⟩) 2 2, .slice none 0 0)]) hb hg rfl (fun i x e hi he => ?_) hx ho hl
  cases i with
  | zero =>
    cases hi; cases he
    exact ⟨ownV_two (b := ⟨2, 0, z⟩) hA hL hp ⟨six2, six0⟩, OwnI.nil_, gep_ok hr⟩
  | succ i => simp at hi
theorem spl_app2 {e : Ins} {ce te : Value} (h : Spl w L gB n C (.slice (some ⟨kc, 0, none⟩) n0 Cc) l rest) (hn : n0 = l.length) (hb : Below w.heap.size w w2) (hg : w2.grownBy w' (Value.slice (some ⟨kc, 0, none⟩) n0 Cc).ownBlock) (hx : w.ownsRow L 39 7 (.slice (some ⟨kc, 0, none⟩) n0 Cc) n0 xs)
    (hA : w2.heap[ga]? = some (.cells #[.int .i64 p.kind, .int .i64 p.num, .int .u64 p.bits, .int .i64 2, .int .i64 0, .int .u64 z] 42 (0, 0))) (hp : I64 p.kind ∧ I64 p.num) (hr : I64 r) (hL : L ≤ ga)
    (he : OwnV w L ce e.args ∧ OwnI w L te e.to ∧ InsOk e)
    (ho : w'.ownsRow L 39 7 (.slice (some ⟨g', 0, none⟩) (n0 + 2) C') (n0 + 2) (xs ++ [.int .i64 29, .int .i64 r, .int .i64 65, .int .i64 0, .int .i64 0, .slice (some ⟨ga, 0, none⟩) 2 2, .slice none 0 0, .int .i64 e.op, .int .i64 e.reg, .int .i64 e.ty, .int .i64 e.num, .int .i64 e.flags, ce, te]))
    (hl : (Value.slice (some ⟨kc, 0, none⟩) n0 Cc).ownBlock = some g' ∨ w.heap.size ≤ g') : Spl w' L gB n C (.slice (some ⟨g', 0, none⟩) (n0 + 2) C') (l ++ [gepI r p z, e]) rest := by
  subst hn
  refine h.app (ns := [(.slice (some ⟨ga, 0, none⟩) 2 2, .slice none 0 0), (ce, te)]) hb hg rfl (fun i x e' hi he' => ?_) hx ho hl
  match i, hi, he' with
  | 0, hi, he' =>
    cases hi; cases he'
    exact ⟨ownV_two (b := ⟨2, 0, z⟩) hA hL hp ⟨six2, six0⟩, OwnI.nil_, gep_ok hr⟩
  | 1, hi, he' =>
    cases hi; cases he'
    exact ⟨⟨row_kept he.1.row fun k hk => hb.block k (row_lt he.1.row hk).2.1, he.1.ok⟩, ⟨row_kept he.2.1.row fun k hk => hb.block k (row_lt he.2.1.row hk).2.1, he.2.1.ok⟩, he.2.2⟩
  | i + 2, hi, he' => simp at hi
/-- the cell of the first block's code can be read and written -/
theorem Spl.blk {v : Value} (h : Spl w L gB n C v l rest) : (∃ A m c, w.cell? ⟨gB, 0, none⟩ = some (Value.slice A m c)) ∧ w.frozen? ⟨gB, 0, none⟩ = false := by
  obtain ⟨_, ⟨u, xr, ⟨A, m, c, rfl⟩, h2, _⟩, h4⟩ := h
  refine ⟨⟨A, m, c, ?_⟩, World.ownsRow.frozenAt h2 0⟩
  rw [World.ownsRow.cellAt h2 0 (by omega)]; rfl
end
/-- a right function's first block, and its end -/
theorem right_front {m : Mod} {f : Fun} (h : FunRight m f) : ∃ l0 e rest, f.blocks = (l0 ++ [e]) :: rest ∧ iends e.op = true := by
  obtain ⟨⟨h1, -, -⟩, h2⟩ := h.1
  match hb : f.blocks with
  | [] => rw [hb] at h1; simp at h1
  | x :: rest =>
    obtain ⟨y, h3, h4, -⟩ := h2 0 x (by rw [hb]; rfl)
    have hne : x ≠ [] := by
      intro e
      subst e
      simp at h3
    refine ⟨x.dropLast, y, rest, ?_, h4⟩
    have h5 := List.dropLast_concat_getLast hne
    have h6 : x.getLast hne = y := by
      rw [List.getLast_eq_getElem]
      rw [List.getElem?_eq_getElem (by have := List.length_pos_iff.2 hne; omega)] at h3
      exact Option.some.inj h3
    rw [h6] at h5
    rw [h5]
theorem names_defs2 {x : Ins} {r : Int} (h : defs x r = true) : names x r = true := by
  unfold defs at h
  simp only [Bool.and_eq_true, beq_iff_eq] at h
  unfold names
  simp [h.1]
theorem fresh_no {l : List Ins} {np F : Nat} (h : IsFresh l np F) : noDef l (F : Int) := by
  intro x hx
  cases hd : defs x (F : Int) with
  | false => rfl
  | true =>
    have h1 : namesL l (F : Int) = true := by
      unfold namesL
      exact List.any_eq_true.2 ⟨x, hx, names_defs2 hd⟩
    rw [h.2.1] at h1
    cases h1
theorem ends_defs {e : Ins} (h : iends e.op = true) (n : Int) : defs e n = false := by
  unfold iends at h
  unfold defs iresult
  simp only [decide_eq_true_eq] at h
  have h1 : ¬ (14 ≤ e.op ∧ e.op ≤ 19) := by omega
  simp
  omega
theorem below_fact9 {w : World} {N j : Nat} {u : Value} (h : w.cell? ⟨N, j, none⟩ = some u) (hN : N < w.heap.size) : ∀ w', Below w.heap.size w w' → w'.cell? ⟨N, j, none⟩ = some u := fun w' hb => (hb.cell (p := ⟨N, j, none⟩) hN).trans h
theorem blk_ne {w : World} {g g' : Nat} {c c' : Array Value} {T T' : TypeId} (h : w.heap[g]? = some (.cells c T (0, 0))) (h' : w.heap[g']? = some (.cells c' T' (0, 0))) (hT : T ≠ T') : g ≠ g' := by
  intro e
  subst e
  rw [h] at h'
  cases h'
  exact hT rfl
theorem spl_inner {w w' : World} {L gB n C n0 kc Cc : Nat} {l : List Ins} {rest : List (List Ins)} {va vt : Value} {args : List Opd} {tos : List Int} (h : Spl w L gB n C (.slice (some ⟨kc, 0, none⟩) n0 Cc) l rest) (hn : n0 = l.length) (ho : Only (fun q => q = kc ∨ q = gB) w.heap.size w w')
    (hva : OwnV w L va args) (hvt : OwnI w L vt tos) : OwnV w' L va args ∧ OwnI w' L vt tos := by
  obtain ⟨xs, hx⟩ := h.row hn
  obtain ⟨-, -, c1, hc1⟩ := row_lt hx rfl
  obtain ⟨-, -, c2, hc2⟩ := h.at_
  refine ⟨⟨row_kept hva.row fun k hk => ?_, hva.ok⟩, ⟨row_kept hvt.row fun k hk => ?_, hvt.ok⟩⟩
  · obtain ⟨-, h1, c3, hc3⟩ := row_lt hva.row hk
    refine ho.block k h1 fun hq => ?_
    rcases hq with e | e
    · exact blk_ne hc3 hc1 (by decide) e
    · exact blk_ne hc3 hc2 (by decide) e
  · obtain ⟨-, h1, c3, hc3⟩ := row_lt hvt.row hk
    refine ho.block k h1 fun hq => ?_
    rcases hq with e | e
    · exact blk_ne hc3 hc1 (by decide) e
    · exact blk_ne hc3 hc2 (by decide) e
theorem shift_size {f : Fun} {l0 : List Ins} {e0 : Ins} {rest : List (List Ins)} {r s z : Int} {p q : Opd} (h : f.blocks = (l0 ++ [e0]) :: rest) : funSz (setBlocks f (shB l0 e0 rest r s p q z)) = funSz f + 6 := by
  unfold funSz setBlocks
  rw [h]
  unfold blksSz shB blkSz
  simp only [List.map_cons, List.sum_cons, List.map_append, List.sum_append, List.map_nil, List.sum_nil]
  have h1 : insSz (gepI r p z) = 3 := rfl
  have h2 : insSz (gepI s q z) = 3 := rfl
  rw [h1, h2]
  omega
theorem shift_law {m : Mod} {f : Fun} (hfr : FunRight m f) {l0 : List Ins} {e0 : Ins} {rest : List (List Ins)} (hfb : f.blocks = (l0 ++ [e0]) :: rest) (hen : iends e0.op = true) {r s : Nat} {p q v : Opd} {x y z : Int}
    (hrf : IsFresh f.blocks.flatten f.params.length r) (hsf : IsFresh ((l0 ++ [gepI r p z]) :: rest).flatten f.params.length s) (hR : rootS f.blocks p = (v, x, true)) (hG : rootS f.blocks q = (v, y, true)) (t u : Int) :
    askS f.params.length f.blocks p t q u = askS f.params.length (shB l0 e0 rest r s p q z) ⟨1, r, 0⟩ t ⟨1, s, 0⟩ u := by
  have h1 := fresh_no hrf
  have h2 := fresh_no hsf
  have h3 : noDef f.blocks.flatten (s : Int) := by
    rw [hfb]
    intro i hi
    simp only [List.flatten_cons, List.mem_append, List.mem_singleton] at hi
    rcases hi with (hi | hi) | hi
    · exact h2 i (by simp [hi])
    · rw [hi]; exact ends_defs hen _
    · exact h2 i (by
        simp only [List.flatten_cons, List.mem_append]
        exact .inr hi)
  have h4 : (r : Int) ≠ (s : Int) := by
    have h5 := h2 (gepI r p z) (by simp)
    rw [defs_gep] at h5
    exact of_decide_eq_false h5
  have hr := hrf.1
  have hs := hsf.1
  have key : ∀ v', (rootS f.blocks v').1.kind = 1 → ((rootS f.blocks v').1.num = (r : Int) ∨ (rootS f.blocks v').1.num = (s : Int)) → (rootS f.blocks v').1 = v' := fun v' hk hn => right_root hfr h1 h3 (by omega) (by omega) v' hk hn
  rw [hfb] at h1 h3 hR hG key ⊢
  exact alias_shift h1 h3 h4 (by omega) (by omega) (by rw [hR]) (by rw [hG]) (by rw [hR, hG]) (fun v' _ hk hn => key v' hk hn) t u
end Go.Proofs.Ytamjcafjdioidaa
