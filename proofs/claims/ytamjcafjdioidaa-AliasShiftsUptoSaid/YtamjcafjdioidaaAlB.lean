/- Roots, kin, who escapes, how two accesses meet: as plain functions, and that the order of the two doesn't matter. No program is in sight. No condition. | alias.maker. No condition but sizes. -/
import Derived.Test.YtamjcafjdioidaaIrData
import Derived.WalkKit
import Derived.Test.YtamjcafjdioidaaHm
import Derived.Test.YtamjcafjdioidaaIrF
namespace Go.Proofs.Ytamjcafjdioidaa
open Go.RowKit
set_option linter.unusedVariables false

theorem before_mem {bs : List (List Ins)} {i j : Nat} {x : List Ins} {ins : Ins} (hx : bs[i]? = some x) (hi : x[j]? = some ins) : ins ∈ bs.flatten :=
  List.mem_flatten.2 ⟨x, List.mem_of_getElem? hx, List.mem_of_getElem? hi⟩
theorem before_later {bs : List (List Ins)} {i j i' j' : Nat} {x : List Ins} {ins : Ins} (hx : bs[i]? = some x) (hi : x[j]? = some ins) (h : i < i' ∨ i = i' ∧ j < j') : ins ∈ before bs i' j' := by
  unfold before
  rcases h with h | ⟨rfl, h⟩
  · refine List.mem_append_left _ (List.mem_flatten.2 ⟨x, ?_, List.mem_of_getElem? hi⟩)
    exact List.mem_of_getElem? (by rw [List.getElem?_take_of_lt h]; exact hx)
  · refine List.mem_append_right _ ?_
    rw [getD_nil hx]
    exact List.mem_of_getElem? (by rw [List.getElem?_take_of_lt h]; exact hi)
theorem isDef_unique {bs : List (List Ins)} {r : Int} {i j i' j' : Nat} (h : IsDef bs r i j) (h' : IsDef bs r i' j') : i = i' ∧ j = j' := by
  obtain ⟨x, ins, h1, h2, h3, h4⟩ := h
  obtain ⟨x', ins', h1', h2', h3', h4'⟩ := h'
  have a : ¬ (i < i' ∨ i = i' ∧ j < j') := fun hc => by
    have := h4' ins (before_later h1 h2 hc)
    rw [h3] at this; cases this
  have b : ¬ (i' < i ∨ i' = i ∧ j' < j) := fun hc => by
    have := h4 ins' (before_later h1' h2' hc)
    rw [h3'] at this; cases this
  omega
def IsMk (bs : List (List Ins)) (v : Opd) (o : Ins × Nat) : Prop := v.kind = 1 ∧ ∃ j x, bs[o.2]? = some x ∧ x[j]? = some o.1 ∧ IsDef bs v.num o.2 j
theorem isMk_unique {bs : List (List Ins)} {v : Opd} {o o' : Ins × Nat} (h : IsMk bs v o) (h' : IsMk bs v o') : o = o' := by
  obtain ⟨ins, i⟩ := o
  obtain ⟨ins', i'⟩ := o'
  obtain ⟨-, j, x, h1, h2, h3⟩ := h
  obtain ⟨-, j', x', h1', h2', h3'⟩ := h'
  obtain ⟨e1, e2⟩ := isDef_unique h3 h3'
  simp only at e1 e2 h1 h2 h1' h2'
  subst e1 e2
  rw [h1] at h1'
  cases h1'
  rw [h2] at h2'
  cases h2'
  rfl
open Classical in
noncomputable def makerS (bs : List (List Ins)) (v : Opd) : Option (Ins × Nat) := if h : ∃ o, IsMk bs v o then some (Classical.choose h) else none
theorem makerS_some {bs : List (List Ins)} {v : Opd} {i j : Nat} {x : List Ins} {ins : Ins} (hk : v.kind = 1) (hx : bs[i]? = some x) (hi : x[j]? = some ins) (hd : IsDef bs v.num i j) : makerS bs v = some (ins, i) := by
  have h : IsMk bs v (ins, i) := ⟨hk, j, x, hx, hi, hd⟩
  have h' : ∃ o, IsMk bs v o := ⟨_, h⟩
  unfold makerS
  rw [dif_pos h', isMk_unique (Classical.choose_spec h') h]
theorem makerS_kind {bs : List (List Ins)} {v : Opd} (hk : v.kind ≠ 1) : makerS bs v = none := by
  unfold makerS
  rw [dif_neg fun h => hk h.choose_spec.1]
theorem makerS_no {bs : List (List Ins)} {v : Opd} (h : noDef bs.flatten v.num) : makerS bs v = none := by
  unfold makerS
  rw [dif_neg]
  rintro ⟨o, -, j, x, h1, h2, x', ins', h3, h4, h5, -⟩
  have := h ins' (before_mem h3 h4)
  rw [h5] at this; cases this
theorem makerS_mem {bs : List (List Ins)} {v : Opd} {ins : Ins} {i : Nat} (h : makerS bs v = some (ins, i)) : v.kind = 1 ∧ ins ∈ bs.flatten ∧ ins.reg = v.num := by
  unfold makerS at h
  split at h
  · rename_i hh
    have hs := Classical.choose_spec hh
    rw [Option.some.inj h] at hs
    obtain ⟨hk, j, x, h1, h2, x', ins', h3, h4, h5, -⟩ := hs
    simp only at h1 h2 h3
    rw [h1] at h3
    cases h3
    rw [h2] at h4
    cases h4
    refine ⟨hk, before_mem h1 h2, ?_⟩
    unfold defs at h5
    simp only [Bool.and_eq_true, beq_iff_eq] at h5
    exact h5.1
  · cases h

/-- an operand that goes on to its base -/
def gepOf (ins : Ins) : Option (Opd × Opd) := if ins.op = 29 then (match ins.args with | a :: b :: _ => some (a, b) | _ => none) else none
def offAdd (off bits : Int) : Int := wrap64 (off + wrap64 bits)
/-- a root's search: so many rounds at most -/
noncomputable def rootGo (bs : List (List Ins)) : Nat → List Int → Int → Bool → Opd → Opd × Int × Bool
  | 0, _, off, known, v => (v, off, known)
  | g + 1, met, off, known, v => match (makerS bs v).bind fun p => gepOf p.1 with
    | none => (v, off, known)
    | some (a, b) => if met.contains v.num then (v, off, false) else
        rootGo bs g (v.num :: met) (if b.kind = 2 then offAdd off b.bits else off) (known && decide (b.kind = 2)) a
def regsM (bs : List (List Ins)) : List Int := bs.flatten.map Ins.reg
noncomputable def rootR (bs : List (List Ins)) (v : Opd) : Opd × Int × Bool := rootGo bs ((regsM bs).length + 1) [] 0 true v
noncomputable def rootS (bs : List (List Ins)) (v : Opd) : Opd × Int × Bool := ((rootR bs v).1, if (rootR bs v).2.2 then (rootR bs v).2.1 else 0, (rootR bs v).2.2)

/-- who has a register's address, or some bytes further on -/
inductive Kin (l : List Ins) (reg : Int) : Int → Prop
  | self : Kin l reg reg
  | step {i : Ins} {a : Opd} {rest : List Opd} : i ∈ l → i.op = 29 → i.args = a :: rest → a.kind = 1 → Kin l reg a.num → Kin l reg i.reg
def quietS (op : Int) (k : Nat) : Bool := decide (op = 27) || (decide (op = 28) && decide (k = 1)) || (decide (op = 29) && decide (k = 0)) || decide (op = 14) || decide (op = 15)
def Leaks (l : List Ins) (reg : Int) : Prop := ∃ i, i ∈ l ∧ ∃ k v, i.args[k]? = some v ∧ v.kind = 1 ∧ Kin l reg v.num ∧ quietS i.op k = false
open Classical in
noncomputable def escS (bs : List (List Ins)) (reg : Int) : Bool := decide (Leaks bs.flatten reg)

/-- a root, with what is asked of it -/
structure Rt where
  v : Opd
  off : Int
  known : Bool
  alloca : Bool
  stable : Bool
noncomputable def allocaS (bs : List (List Ins)) (v : Opd) : Bool := match makerS bs v with | none => false | some p => p.1.op == 26
noncomputable def stableS (np : Nat) (bs : List (List Ins)) (v : Opd) : Bool := decide (v.kind = 5) || (decide (v.kind = 1) && ((decide (0 ≤ v.num) && decide (v.num < np)) || (match makerS bs v with | none => false | some p => decide (p.2 = 0))))
noncomputable def ofS (np : Nat) (bs : List (List Ins)) (v : Opd) : Rt := ⟨(rootS bs v).1, (rootS bs v).2.1, (rootS bs v).2.2, allocaS bs (rootS bs v).1, stableS np bs (rootS bs v).1⟩
def bytesS (t : Int) : Int := if t = 65 then 8 else if 1 ≤ t ∧ t ≤ 64 then (t + 7) / 8 else 0
def noneS (r : Rt) : Bool := r.v.kind == 4 || r.v.kind == 3
def objS (r : Rt) : Bool := r.v.kind == 5 || r.alloca
/-- how far apart, in 2^64 -/
def apartS (x y : Int) : Int := (y - x) % 18446744073709551616
def meetS (n m d : Int) : Int := if d = 0 ∧ n = m then 2 else if d ≠ 0 ∧ n ≤ d ∧ m ≤ 18446744073709551616 - d then 0 else 1
noncomputable def askR (bs : List (List Ins)) (a b : Rt) (t u : Int) : Int :=
  if noneS a = true ∨ noneS b = true then 0
  else if a.v = b.v then (if a.stable = false ∨ a.known = false ∨ b.known = false then 1 else meetS (bytesS t) (bytesS u) (apartS a.off b.off))
  else if (objS a = true ∧ objS b = true) ∨ (a.alloca = true ∧ escS bs a.v.num = false) ∨ (b.alloca = true ∧ escS bs b.v.num = false) then 0 else 1
noncomputable def askS (np : Nat) (bs : List (List Ins)) (p : Opd) (t : Int) (q : Opd) (u : Int) : Int := askR bs (ofS np bs p) (ofS np bs q) t u

theorem meet_comm (n m : Int) (x y : Int) : meetS n m (apartS x y) = meetS m n (apartS y x) := by
  unfold meetS apartS
  have h1 : (y - x) % 18446744073709551616 = 0 ↔ (x - y) % 18446744073709551616 = 0 := by omega
  have h2 : (y - x) % 18446744073709551616 ≠ 0 → 18446744073709551616 - (y - x) % 18446744073709551616 = (x - y) % 18446744073709551616 := by omega
  generalize (y - x) % 18446744073709551616 = D at h1 h2 ⊢
  generalize (x - y) % 18446744073709551616 = E at h1 h2 ⊢
  (repeat' split) <;> omega
theorem ask_comm (np : Nat) (bs : List (List Ins)) (p : Opd) (t : Int) (q : Opd) (u : Int) : askS np bs p t q u = askS np bs q u p t := by
  unfold askS askR
  by_cases h1 : noneS (ofS np bs p) = true ∨ noneS (ofS np bs q) = true
  · rw [if_pos h1, if_pos h1.symm]
  · rw [if_neg h1, if_neg (show ¬ (noneS (ofS np bs q) = true ∨ noneS (ofS np bs p) = true) from fun h => h1 h.symm)]
    by_cases h2 : (ofS np bs p).v = (ofS np bs q).v
    · rw [if_pos h2, if_pos h2.symm]
      have h3 : (ofS np bs p).stable = (ofS np bs q).stable := by
        show stableS np bs (ofS np bs p).v = stableS np bs (ofS np bs q).v
        rw [h2]
      rw [h3, meet_comm]
      by_cases h4 : (ofS np bs q).stable = false ∨ (ofS np bs p).known = false ∨ (ofS np bs q).known = false
      · rw [if_pos h4, if_pos (by rcases h4 with h | h | h; exact .inl h; exact .inr (.inr h); exact .inr (.inl h))]
      · rw [if_neg h4, if_neg (show ¬ ((ofS np bs q).stable = false ∨ (ofS np bs q).known = false ∨ (ofS np bs p).known = false) by rintro (h | h | h); exact h4 (.inl h); exact h4 (.inr (.inr h)); exact h4 (.inr (.inl h)))]
    · rw [if_neg h2, if_neg (show ¬ (ofS np bs q).v = (ofS np bs p).v from fun h => h2 h.symm)]
      by_cases h5 : (objS (ofS np bs p) = true ∧ objS (ofS np bs q) = true) ∨ ((ofS np bs p).alloca = true ∧ escS bs (ofS np bs p).v.num = false) ∨ ((ofS np bs q).alloca = true ∧ escS bs (ofS np bs q).v.num = false)
      · rw [if_pos h5, if_pos (by rcases h5 with h | h | h; exact .inl h.symm; exact .inr (.inr h); exact .inr (.inl h))]
      · rw [if_neg h5, if_neg (show ¬ ((objS (ofS np bs q) = true ∧ objS (ofS np bs p) = true) ∨ ((ofS np bs q).alloca = true ∧ escS bs (ofS np bs q).v.num = false) ∨ ((ofS np bs p).alloca = true ∧ escS bs (ofS np bs p).v.num = false)) by rintro (h | h | h); exact h5 (.inl h.symm); exact h5 (.inr (.inr h)); exact h5 (.inr (.inl h)))]
theorem meet_range (n m d : Int) : 0 ≤ meetS n m d ∧ meetS n m d ≤ 2 := by
  unfold meetS; split; omega; split <;> omega
theorem ask_range (np : Nat) (bs : List (List Ins)) (p : Opd) (t : Int) (q : Opd) (u : Int) : 0 ≤ askS np bs p t q u ∧ askS np bs p t q u ≤ 2 := by
  unfold askS askR
  have := meet_range (bytesS t) (bytesS u) (apartS (ofS np bs p).off (ofS np bs q).off)
  split
  · omega
  · split
    · split <;> omega
    · split <;> omega
theorem meet_two {n m d : Int} (h : meetS n m d = 2) : d = 0 ∧ n = m := by
  unfold meetS at h
  split at h
  · assumption
  · split at h <;> omega
theorem ask_two {np : Nat} {bs : List (List Ins)} {p q r : Opd} {t u s : Int} (h : askS np bs p t q u = 2) : askS np bs p t r s = askS np bs q u r s := by
  unfold askS at h ⊢
  have h0 := h
  unfold askR at h
  split at h
  · omega
  · rename_i h1
    split at h
    · rename_i h2
      split at h
      · omega
      · rename_i h3
        obtain ⟨h4, h5⟩ := meet_two h
        have h6 : (ofS np bs p).stable = (ofS np bs q).stable := by
          show stableS np bs (ofS np bs p).v = stableS np bs (ofS np bs q).v
          rw [h2]
        have h7 : (ofS np bs p).alloca = (ofS np bs q).alloca := by
          show allocaS bs (ofS np bs p).v = allocaS bs (ofS np bs q).v
          rw [h2]
        have h8 : (ofS np bs p).known = (ofS np bs q).known := by
          cases e1 : (ofS np bs p).known with
          | false => exact (h3 (.inr (.inl e1))).elim
          | true =>
            cases e2 : (ofS np bs q).known with
            | false => exact (h3 (.inr (.inr e2))).elim
            | true => rfl
        have h9 : ∀ z : Int, apartS (ofS np bs p).off z = apartS (ofS np bs q).off z := fun z => by
          unfold apartS at h4 ⊢; omega
        generalize ofS np bs r = c
        unfold askR noneS objS
        rw [h2, h5, h6, h7, h8, h9]
    · rename_i h2
      split at h <;> omega
end Go.Proofs.Ytamjcafjdioidaa

namespace Go.Proofs.Ytamjcafjdioidaa
open Go.RowKit
set_option linter.unusedSimpArgs false
set_option linter.unusedVariables false

def zero7 (w : World) (g o : Nat) (a : Int) : World := ((((((w.setCell ⟨g, o, none⟩ (.int .i64 a)).setCell ⟨g, o + 1, none⟩ (.int .i64 0)).setCell ⟨g, o + 2, none⟩ (.int .i64 0)).setCell ⟨g, o + 3, none⟩ (.int .i64 0)).setCell ⟨g, o + 4, none⟩ (.int .i64 0)).setCell ⟨g, o + 5, none⟩ (.slice none 0 0)).setCell ⟨g, o + 6, none⟩ (.slice none 0 0)
def MakerPost (bs : List (List Ins)) (v : Opd) (w : World) (e : Ending) (w' : World) : Prop := Below w.heap.size w w' ∧
  ((makerS bs v = none ∧ e = .returned (.tuple #[.agg #[.int .i64 0, .int .i64 0, .int .i64 0, .int .i64 0, .int .i64 0, .slice none 0 0, .slice none 0 0], .int .i64 0, .bool false])) ∨
   ∃ ins i c d, makerS bs v = some (ins, i) ∧ e = .returned (.tuple #[.agg #[.int .i64 ins.op, .int .i64 ins.reg, .int .i64 ins.ty, .int .i64 ins.num, .int .i64 ins.flags, c, d], .int .i64 (i : Nat), .bool true]) ∧
     RIns.rep w' w'.heap.size [.int .i64 ins.op, .int .i64 ins.reg, .int .i64 ins.ty, .int .i64 ins.num, .int .i64 ins.flags, c, d] ins)
theorem seven_cells {w : World} {N : Nat} {u0 u1 u2 u3 u4 u5 u6 : Value} {t : TypeId} (h : w.heap[N]? = some (.cells #[u0, u1, u2, u3, u4, u5, u6] t (0, 0))) : w.cell? ⟨N, 0, none⟩ = some u0 ∧ w.cell? ⟨N, 1, none⟩ = some u1 ∧ w.cell? ⟨N, 2, none⟩ = some u2 ∧ w.cell? ⟨N, 3, none⟩ = some u3 ∧ w.cell? ⟨N, 4, none⟩ = some u4 ∧ w.cell? ⟨N, 5, none⟩ = some u5 ∧ w.cell? ⟨N, 6, none⟩ = some u6 := by simp [World.cell?, h]
set_option maxRecDepth 100000 in
set_option maxHeartbeats 6400000 in
theorem maker_any (f : Fun) (v : Opd) (c1 c2 : Value) (w : World) (B : Nat) (hB : B ≤ w.heap.size) (hf : RFun.rep w B [.string f.name, c1, .int .i64 f.ret, c2] f) (hs : Small f) :
    Calls Try.prog 25 #[f.v c1 c2, .agg #[.int .i64 v.kind, .int .i64 v.num, .int .u64 v.bits]] w (MakerPost f.blocks v w) := by
  obtain ⟨hp, hb⟩ := fun_open (RFun.later hf (Below.refl _ _) hB)
  obtain ⟨A1, k1, h1, -, -⟩ := Rp.slice1_open hp
  obtain ⟨A2, k2, h2, hm2, gb⟩ := Rp.slice1_open hb
  cases h1; cases h2
  replace gb := hide gb
  replace hp := hide hp
  replace hb := hide hb
  obtain ⟨n, hn⟩ : ∃ n, Hid (n = f.blocks.length) := ⟨_, hide rfl⟩
  have hnle : n ≤ 2000000 := by rw [hn.out]; exact hs.blocks
  rw [← hn.out] at hf hm2 hb ⊢
  obtain ⟨W, hW, hwW, hWs, hx0, hx1, hx2⟩ := boxes3 w #[.string f.name, .slice A1 f.params.length k1, .int .i64 f.ret, .slice A2 n k2] #[.int .i64 v.kind, .int .i64 v.num, .int .u64 v.bits] #[.int .i64 0, .int .i64 0, .int .i64 0, .int .i64 0, .int .i64 0, .slice none 0 0, .slice none 0 0] 32 42 39
  have hN0 : Hid (W.heap[w.heap.size + 1 + 1]? = some (.cells #[.int .i64 0, .int .i64 0, .int .i64 0, .int .i64 0, .int .i64 0, .slice none 0 0, .slice none 0 0] 39 (0, 0))) := hide (by rw [← hW]; exact box_at _ (by simp))
  have q0 : ∀ w', Below W.heap.size W w' → w'.cell? ⟨w.heap.size, 0, none⟩ = some (.string f.name) := hx0 0 _ rfl
  have q1 : ∀ w', Below W.heap.size W w' → w'.cell? ⟨w.heap.size, 1, none⟩ = some (.slice A1 f.params.length k1) := hx0 1 _ rfl
  have q2 : ∀ w', Below W.heap.size W w' → w'.cell? ⟨w.heap.size, 2, none⟩ = some (.int .i64 f.ret) := hx0 2 _ rfl
  have q3 : ∀ w', Below W.heap.size W w' → w'.cell? ⟨w.heap.size, 3, none⟩ = some (.slice A2 n k2) := hx0 3 _ rfl
  have v0 : ∀ w', Below W.heap.size W w' → w'.cell? ⟨w.heap.size + 1, 0, none⟩ = some (.int .i64 v.kind) := hx1 0 _ rfl
  have v1 : ∀ w', Below W.heap.size W w' → w'.cell? ⟨w.heap.size + 1, 1, none⟩ = some (.int .i64 v.num) := hx1 1 _ rfl
  clear hx0 hx1 hx2
  have hws : w.heap.size ≤ W.heap.size := by omega
  have hNW : w.heap.size + 1 + 1 < W.heap.size := by omega
  replace hWs := hide hWs
  have hself := Below.refl W.heap.size W
  have cD : Hid (∀ w', Below W.heap.size W w' → Calls Try.prog 51 #[f.v (.slice A1 f.params.length k1) (.slice A2 n k2), .int .i64 v.num] w' (DefPost f v.num w')) := hide (fun w' h => def_any f v.num (.slice A1 f.params.length k1) (.slice A2 n k2) w' w'.heap.size (Nat.le_refl _) (RInts.later hp.out (hwW.trans (h.mono hws)) (hwW.trans (h.mono hws)).size) (RBlks.later hb.out (hwW.trans (h.mono hws)) (hwW.trans (h.mono hws)).size))
  replace hs := hide hs
  replace hf := hide hf
  replace hwW := hide hwW
  by_cases hk : v.kind = 1
  · have hk1 : (v.kind != 1) = false := by rw [hk]; rfl
    have hk0 := hide hk
    replace hk := hide hk
    go_enter Try.func25, Try.ntmps25
    go_wp2_with (fail)
    refine (cD.out _ hself).mono ?_
    rintro e w4 ⟨i, j, fd, rfl, hb4, hd1, hd2⟩
    have hs4 := hb4.size
    replace hd1 := hide hd1
    replace hd2 := hide hd2
    cases fd with
    | false =>
      obtain ⟨rfl, rfl, hno⟩ := hd2.out rfl
      have hmk : Hid (makerS f.blocks v = none) := hide (makerS_no hno)
      obtain ⟨Y, hY, hwY, hYs, hy⟩ := boxes1 w4 #[.int .i64 0, .int .i64 0, .int .i64 0] 56
      have hbY : Below W.heap.size W Y := hb4.trans (hwY.mono hs4)
      have hNY : Hid (Y.heap[w.heap.size + 1 + 1]? = some (.cells #[.int .i64 0, .int .i64 0, .int .i64 0, .int .i64 0, .int .i64 0, .slice none 0 0, .slice none 0 0] 39 (0, 0))) := hide ((hbY.block _ hNW).trans hN0.out)
      have hbw : Hid (Below w.heap.size w Y) := hide (hwW.out.trans (hbY.mono hws))
      clear hd1 hd2 hno hy
      have hb4' := hide hb4
      replace hwY := hide hwY
      replace hYs := hide hYs
      clear hb4
      obtain ⟨z0, z1, z2, z3, z4, z5, z6⟩ := seven_cells hNY.out
      have g0 := one_free (j := 0) hNY.out
      have g1 := one_free (j := 1) hNY.out
      have g2 := one_free (j := 2) hNY.out
      have g3 := one_free (j := 3) hNY.out
      have g4 := one_free (j := 4) hNY.out
      have g5 := one_free (j := 5) hNY.out
      have g6 := one_free (j := 6) hNY.out
      replace hY := hide hY
      go_upto_region 4 with (fail)
      rw [hY.out]
      clear hY
      have hfin : Hid ((zero7 Y (w.heap.size + 1 + 1) 0 0).heap[w.heap.size + 1 + 1]? = some (.cells #[.int .i64 0, .int .i64 0, .int .i64 0, .int .i64 0, .int .i64 0, .slice none 0 0, .slice none 0 0] 39 (0, 0))) := hide (set_heap (j := 6) (set_heap (j := 5) (set_heap (j := 4) (set_heap (j := 3) (set_heap (j := 2) (set_heap (j := 1) (set_heap (j := 0) hNY.out)))))))
      have hbf : Hid (Below w.heap.size w (zero7 Y (w.heap.size + 1 + 1) 0 0)) := hide (((((((hbw.out.setCell (by show w.heap.size ≤ w.heap.size + 1 + 1; omega) _).setCell (by show w.heap.size ≤ w.heap.size + 1 + 1; omega) _).setCell (by show w.heap.size ≤ w.heap.size + 1 + 1; omega) _).setCell (by show w.heap.size ≤ w.heap.size + 1 + 1; omega) _).setCell (by show w.heap.size ≤ w.heap.size + 1 + 1; omega) _).setCell (by show w.heap.size ≤ w.heap.size + 1 + 1; omega) _).setCell (by show w.heap.size ≤ w.heap.size + 1 + 1; omega) _)
      go_wp2
      refine bodyPost_ret (v := .tuple #[.agg #[.int .i64 0, .int .i64 0, .int .i64 0, .int .i64 0, .int .i64 0, .slice none 0 0, .slice none 0 0], .int .i64 0, .bool false]) ?_ rfl ?_
      · obtain ⟨y0, y1, y2, y3, y4, y5, y6⟩ := seven_cells hfin.out
        unfold zero7 at y0 y1 y2 y3 y4 y5 y6
        simp only [Nat.zero_add] at y0 y1 y2 y3 y4 y5 y6
        simp [results, Try.results25, go_sem, y0, y1, y2, y3, y4, y5, y6]
      · have h9 := hbf.out
        unfold zero7 at h9
        simp only [Nat.zero_add] at h9
        exact ⟨h9, .inl ⟨hmk.out, rfl⟩⟩
    | true =>
      obtain ⟨x, ins, hx, hins, hdef, hnb⟩ := hd1.out rfl
      have hmk : Hid (makerS f.blocks v = some (ins, i)) := hide (makerS_some hk0.out hx hins ⟨x, ins, hx, hins, hdef, hnb⟩)
      obtain ⟨Y, hY, hwY, hYs, hy⟩ := boxes1 w4 #[.int .i64 0, .int .i64 i, .int .i64 j] 56
      have hbY : Below W.heap.size W Y := hb4.trans (hwY.mono hs4)
      have hNY : Hid (Y.heap[w.heap.size + 1 + 1]? = some (.cells #[.int .i64 0, .int .i64 0, .int .i64 0, .int .i64 0, .int .i64 0, .slice none 0 0, .slice none 0 0] 39 (0, 0))) := hide ((hbY.block _ hNW).trans hN0.out)
      have hbw : Hid (Below w.heap.size w Y) := hide (hwW.out.trans (hbY.mono hws))
      have hselfY := Below.refl Y.heap.size Y
      have hwY2 := hwW.out.trans (hbY.mono hws)
      have hw4s : W.heap.size ≤ w4.heap.size := hs4
      have hY4 : w4.heap.size < Y.heap.size := by omega
      have hYw : w.heap.size ≤ Y.heap.size := hwY2.size
      have up : ∀ {b o : Nat} {u : Value}, b ≠ w.heap.size + 1 + 1 → b < Y.heap.size → Y.cell? ⟨b, o, none⟩ = some u → ∀ w', Only (fun k => k = w.heap.size + 1 + 1) Y.heap.size Y w' → w'.cell? ⟨b, o, none⟩ = some u := fun {b o u} h1 h2 h3 w' h => (h.cell (p := ⟨b, o, none⟩) h2 h1).trans h3
      have low : ∀ {b o : Nat} {u : Value}, b < w.heap.size → w.cell? ⟨b, o, none⟩ = some u → ∀ w', Only (fun k => k = w.heap.size + 1 + 1) Y.heap.size Y w' → w'.cell? ⟨b, o, none⟩ = some u := fun {b o u} h1 h2 => up (by omega) (by omega) ((hwY2.cell (p := ⟨b, o, none⟩) h1).trans h2)
      have t1 := up (o := 1) (by omega) hY4 (hy 1 _ rfl Y hselfY)
      have t2 := up (o := 2) (by omega) hY4 (hy 2 _ rfl Y hselfY)
      have r3 := up (o := 3) (by omega) (by omega) (q3 Y hbY)
      have hin : i < n := by have := (List.getElem?_eq_some_iff.1 hx).1; have := hn.out; omega
      obtain ⟨A9, k9, h9, -, gb9⟩ := Rp.slice1_at hb.out
      cases h9
      obtain ⟨b1, o1, rfl, hb1w, he1⟩ := gb9 (by have := hn.out; omega)
      obtain ⟨d1, hr1, hd3⟩ := he1 i x hx
      obtain ⟨A3, c3, h3, hm3, ga3⟩ := Rp.slice_at hr1
      cases h3
      have hjx : j < x.length := (List.getElem?_eq_some_iff.1 hins).1
      obtain ⟨b3, o3, rfl, hb3w, he3⟩ := ga3 (by omega)
      obtain ⟨es, hes, hri, hc⟩ := he3 j ins hins
      obtain ⟨a1, a2, rfl, ha, hto, hok⟩ := id hri
      obtain ⟨A5, k5, h5, -, -⟩ := Rp.slice_at ha
      obtain ⟨A6, k6, h6, -, -⟩ := Rp.slice1_at hto
      cases h5; cases h6
      have r4 := low (by omega) hd3
      have e0 := low (by omega) (hc 0 _ rfl)
      have e1 := low (by omega) (hc 1 _ rfl)
      have e2 := low (by omega) (hc 2 _ rfl)
      have e3 := low (by omega) (hc 3 _ rfl)
      have e4 := low (by omega) (hc 4 _ rfl)
      have e5 := low (by omega) (hc 5 _ rfl)
      have e6 := low (by omega) (hc 6 _ rfl)
      simp only [Nat.add_zero] at e0
      have hri2 := hide hri
      have hon : Only (fun k => k = w.heap.size + 1 + 1) Y.heap.size Y Y := Only.refl _ _ _
      clear hd1 hd2 hy hdef hnb he1 hr1 hd3 ga3 gb9 he3 hc ha hto hok hri hes q0 q1 q2 q3 v0 v1 hselfY hself up low
      replace hx := hide hx
      replace hins := hide hins
      replace hwY := hide hwY
      replace hYs := hide hYs
      replace hwY2 := hide hwY2
      have hb4' := hide hb4
      clear hb4
      obtain ⟨z0, z1, z2, z3, z4, z5, z6⟩ := seven_cells hNY.out
      have g0 := one_free (j := 0) hNY.out
      have g1 := one_free (j := 1) hNY.out
      have g2 := one_free (j := 2) hNY.out
      have g3 := one_free (j := 3) hNY.out
      have g4 := one_free (j := 4) hNY.out
      have g5 := one_free (j := 5) hNY.out
      have g6 := one_free (j := 6) hNY.out
      replace hY := hide hY
      go_upto_region 4 with (fail)
      rw [hY.out]
      clear hY
      go_wp2
      (first | go_region_held3 (fun w' => Only (fun k => k = w.heap.size + 1 + 1) Y.heap.size Y w') (first | (with_reducible exact hon.drew) | (with_reducible exact (((((((hon.setCell (.inl rfl) _).setCell (.inl rfl) _).setCell (.inl rfl) _).setCell (.inl rfl) _).setCell (.inl rfl) _).setCell (.inl rfl) _).setCell (.inl rfl) _).drew)) (fail) | fail)
      go_wp2
      have hfin := set_heap (j := 6) (v := .slice A6 ins.to.length k6) (set_heap (j := 5) (v := .slice A5 ins.args.length k5) (set_heap (j := 4) (v := .int .i64 ins.flags) (set_heap (j := 3) (v := .int .i64 ins.num) (set_heap (j := 2) (v := .int .i64 ins.ty) (set_heap (j := 1) (v := .int .i64 ins.reg) (set_heap (j := 0) (v := .int .i64 ins.op) hNY.out))))))
      have hle : w.heap.size ≤ w.heap.size + 1 + 1 := by omega
      have hbf := (((((((hbw.out.setCell (p := ⟨w.heap.size + 1 + 1, 0, none⟩) hle (.int .i64 ins.op)).setCell (p := ⟨w.heap.size + 1 + 1, 1, none⟩) hle (.int .i64 ins.reg)).setCell (p := ⟨w.heap.size + 1 + 1, 2, none⟩) hle (.int .i64 ins.ty)).setCell (p := ⟨w.heap.size + 1 + 1, 3, none⟩) hle (.int .i64 ins.num)).setCell (p := ⟨w.heap.size + 1 + 1, 4, none⟩) hle (.int .i64 ins.flags)).setCell (p := ⟨w.heap.size + 1 + 1, 5, none⟩) hle (.slice A5 ins.args.length k5)).setCell (p := ⟨w.heap.size + 1 + 1, 6, none⟩) hle (.slice A6 ins.to.length k6)).drew
      refine bodyPost_ret (v := .tuple #[.agg #[.int .i64 ins.op, .int .i64 ins.reg, .int .i64 ins.ty, .int .i64 ins.num, .int .i64 ins.flags, .slice A5 ins.args.length k5, .slice A6 ins.to.length k6], .int .i64 i, .bool true]) ?_ rfl ?_
      · obtain ⟨y0, y1, y2, y3, y4, y5, y6⟩ := seven_cells hfin
        simp [results, Try.results25, go_sem, y0, y1, y2, y3, y4, y5, y6]
      · exact ⟨hbf, .inr ⟨ins, i, _, _, hmk.out, rfl, RIns.later hri2.out (hbf.mono (by omega)) (Nat.le_trans (by omega) hbf.size)⟩⟩
  · have hk1 : (v.kind != 1) = true := by rw [bne_iff_ne]; exact hk
    have hmk : Hid (makerS f.blocks v = none) := hide (makerS_kind hk)
    replace hk := hide hk
    have hbw : Hid (Below w.heap.size w W) := hwW
    clear cD gb hp hb
    obtain ⟨z0, z1, z2, z3, z4, z5, z6⟩ := seven_cells hN0.out
    have g0 := one_free (j := 0) hN0.out
    have g1 := one_free (j := 1) hN0.out
    have g2 := one_free (j := 2) hN0.out
    have g3 := one_free (j := 3) hN0.out
    have g4 := one_free (j := 4) hN0.out
    have g5 := one_free (j := 5) hN0.out
    have g6 := one_free (j := 6) hN0.out
    have hfin : Hid ((zero7 W (w.heap.size + 1 + 1) 0 0).heap[w.heap.size + 1 + 1]? = some (.cells #[.int .i64 0, .int .i64 0, .int .i64 0, .int .i64 0, .int .i64 0, .slice none 0 0, .slice none 0 0] 39 (0, 0))) := hide (set_heap (j := 6) (set_heap (j := 5) (set_heap (j := 4) (set_heap (j := 3) (set_heap (j := 2) (set_heap (j := 1) (set_heap (j := 0) hN0.out)))))))
    have hbf : Hid (Below w.heap.size w (zero7 W (w.heap.size + 1 + 1) 0 0)) := hide (((((((hbw.out.setCell (by show w.heap.size ≤ w.heap.size + 1 + 1; omega) _).setCell (by show w.heap.size ≤ w.heap.size + 1 + 1; omega) _).setCell (by show w.heap.size ≤ w.heap.size + 1 + 1; omega) _).setCell (by show w.heap.size ≤ w.heap.size + 1 + 1; omega) _).setCell (by show w.heap.size ≤ w.heap.size + 1 + 1; omega) _).setCell (by show w.heap.size ≤ w.heap.size + 1 + 1; omega) _).setCell (by show w.heap.size ≤ w.heap.size + 1 + 1; omega) _)
    go_enter Try.func25, Try.ntmps25
    go_wp2
    refine bodyPost_ret (v := .tuple #[.agg #[.int .i64 0, .int .i64 0, .int .i64 0, .int .i64 0, .int .i64 0, .slice none 0 0, .slice none 0 0], .int .i64 0, .bool false]) ?_ rfl ?_
    · obtain ⟨y0, y1, y2, y3, y4, y5, y6⟩ := seven_cells hfin.out
      unfold zero7 at y0 y1 y2 y3 y4 y5 y6
      simp only [Nat.zero_add] at y0 y1 y2 y3 y4 y5 y6
      simp [results, Try.results25, go_sem, y0, y1, y2, y3, y4, y5, y6]
    · have h9 := hbf.out
      unfold zero7 at h9
      simp only [Nat.zero_add] at h9
      exact ⟨h9, .inl ⟨hmk.out, rfl⟩⟩
end Go.Proofs.Ytamjcafjdioidaa
