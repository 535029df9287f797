/- lathelaw06.Long. No condition. | What is read of rows that were made; sums over blocks. No condition. | lathelaw02.Few of a module of one function: just which bool. No condition but a bound on the function's size. | lathelaw06.Long: just which bool. No condition but a bound on the function's size. -/
import Derived.Test.YtamjcafjdioidaaHm
import Derived.Test.YtamjcafjdioidaaGrJ
namespace Go.Proofs.Ytamjcafjdioidaa
open Go.RowKit
set_option linter.unusedSimpArgs false
set_option linter.unusedVariables false

def LongPost (n : Nat) (w : World) (e : Ending) (w' : World) : Prop := ∃ b : Bool, e = .returned (.bool b) ∧ (b = false → n ≤ 80) ∧ Below w.heap.size w w'
end Go.Proofs.Ytamjcafjdioidaa

namespace Go.Proofs.Ytamjcafjdioidaa
open Go.RowKit
set_option linter.unusedVariables false

theorem bool_reads {X : World} {B g n : Nat} {l : List Bool} (h : X.ownsRow B 4 1 (.slice (some ⟨g, 0, none⟩) n n) n (l.map Value.bool)) : l.length = n ∧ ∀ (k : Nat) b, l[k]? = some b → ∀ w', Below X.heap.size X w' → w'.cell? ⟨g, k, none⟩ = some (.bool b) := by
  have hl : l.length = n := by have := h.1; simpa using this
  refine ⟨hl, fun k b hk w' hb => ?_⟩
  rw [hb.cell (p := ⟨g, k, none⟩) (row_lt h rfl).2.1]
  exact OwnB.cell h hk (by have := (List.getElem?_eq_some_iff.1 hk).1; omega)
theorem int_reads {X : World} {B : Nat} {v : Value} {l : List Int} (h : OwnI X B v l) : ∃ A C, v = .slice A l.length C ∧ (0 < l.length → ∃ g, A = some ⟨g, 0, none⟩ ∧ ∀ (i : Nat) x, l[i]? = some x → ∀ w', Below X.heap.size X w' → w'.cell? ⟨g, i, none⟩ = some (.int .i64 x)) := by
  obtain ⟨A, C, rfl⟩ := row_form h.row
  refine ⟨A, C, rfl, fun hl => ?_⟩
  obtain ⟨g, cap, hv, -, -⟩ := h.row.form hl
  cases hv
  refine ⟨g, rfl, fun i x hi w' hb => ?_⟩
  rw [hb.cell (p := ⟨g, i, none⟩) (row_lt h.row rfl).2.1, World.ownsRow.cellAt h.row i (by have := (List.getElem?_eq_some_iff.1 hi).1; omega), List.getElem?_map, hi]
  rfl
theorem rows_reads {X : World} {B g n : Nat} {no : Option Nat} {ls : List (List Int)} {cs : List Value} (h : OwnL X B no (.slice (some ⟨g, 0, none⟩) n n) ls cs) (hn : ls.length = n) : ∀ (t : Nat) p, ls[t]? = some p → ∃ A C, (∀ w', Below X.heap.size X w' → w'.cell? ⟨g, t, none⟩ = some (.slice A p.length C)) ∧
    (0 < p.length → ∃ g, A = some ⟨g, 0, none⟩ ∧ ∀ (i : Nat) x, p[i]? = some x → ∀ w', Below X.heap.size X w' → w'.cell? ⟨g, i, none⟩ = some (.int .i64 x)) := by
  intro t p hp
  obtain ⟨c, hc, hI⟩ := h.at_ hp
  obtain ⟨A, C, rfl, h2⟩ := int_reads hI
  refine ⟨A, C, fun w' hb => ?_, h2⟩
  subst hn
  rw [hb.cell (p := ⟨g, t, none⟩) (row_lt h.row rfl).2.1, World.ownsRow.cellAt h.row t (by have := (List.getElem?_eq_some_iff.1 hp).1; omega)]
  exact hc
/-- how many ways on the first b blocks have -/
def waysS (sc : Int → List Int) (b : Nat) : Nat := ((List.range b).map fun (x : Nat) => (sc x).length).sum
theorem ways_step (sc : Int → List Int) (b : Nat) : waysS sc (b + 1) = waysS sc b + (sc b).length := by simp [waysS, List.range_succ]
theorem ways_le {sc : Int → List Int} {n : Nat} (h : ∀ b, (sc b).length ≤ n) : ∀ b : Nat, waysS sc b ≤ b * n
  | 0 => by simp [waysS]
  | b + 1 => by rw [ways_step, Nat.succ_mul]; have := ways_le h b; have := h b; omega
def lensS (ls : List (List Int)) (t : Nat) : Nat := ((ls.take t).map List.length).sum
theorem lens_step {ls : List (List Int)} {t : Nat} {p : List Int} (h : ls[t]? = some p) : lensS ls (t + 1) = lensS ls t + p.length := by
  unfold lensS
  rw [List.take_add_one, h]
  simp
theorem lens_le (ls : List (List Int)) : ∀ t : Nat, lensS ls t ≤ (ls.map List.length).sum := by
  intro t
  have h : (ls.map List.length).sum = lensS ls t + ((ls.drop t).map List.length).sum := by
    unfold lensS
    rw [← List.sum_append, ← List.map_append, List.take_append_drop]
  omega
theorem lens_end (ls : List (List Int)) : lensS ls ls.length = (ls.map List.length).sum := by simp [lensS]
theorem found_step {p : List Int} {k : Nat} {x b : Int} (h : p[k]? = some x) : decide (b ∈ p.take (k + 1)) = (decide (b ∈ p.take k) || x == b) := by
  rw [List.take_add_one, h]
  rw [Bool.eq_iff_iff]
  simp only [decide_eq_true_eq, List.mem_append, Option.toList_some, List.mem_singleton, Bool.or_eq_true, beq_iff_eq]
  exact ⟨fun h => h.imp id Eq.symm, fun h => h.imp id Eq.symm⟩
theorem reach_step {bs : List (List Ins)} {b t : Nat} (hb : (reachF bs)[b]? = some true) (hbl : b < bs.length) (ht : (t : Int) ∈ succsF bs b) (htl : t < bs.length) : (reachF bs)[t]? = some true := by
  rw [reach_at _ _ hbl] at hb
  rw [reach_at _ _ htl]
  have h1 : (b : Int) ∈ orderF bs := by simpa using hb
  have h2 := ((order_ok bs).mem _).1 h1
  have h3 := ((order_ok bs).mem (t : Int)).2 ⟨h2.1, .step h2.2 ht⟩
  simp [h3]
end Go.Proofs.Ytamjcafjdioidaa

namespace Go.Proofs.Ytamjcafjdioidaa
open Go.RowKit
set_option linter.unusedSimpArgs false
set_option linter.unusedVariables false

def insN (i : Ins) : Nat := i.args.length + i.to.length
def blkN (x : List Ins) : Nat := x.length + (x.map insN).sum
/-- how many parts a function has -/
def totN (f : Fun) : Nat := 1 + (f.params.length + f.blocks.length) + (f.blocks.map blkN).sum
def preN {α : Type} (g : α → Nat) (l : List α) (k : Nat) : Nat := ((l.take k).map g).sum
theorem preN_step {α : Type} {g : α → Nat} {l : List α} {k : Nat} {x : α} (h : l[k]? = some x) : preN g l (k + 1) = preN g l k + g x := by
  unfold preN
  rw [List.take_add_one, h]
  simp
theorem preN_le {α : Type} (g : α → Nat) (l : List α) (k : Nat) : preN g l k ≤ (l.map g).sum := by
  have : (l.map g).sum = preN g l k + ((l.drop k).map g).sum := by
    unfold preN
    rw [← List.sum_append, ← List.map_append, List.take_append_drop]
  omega
theorem preN_end {α : Type} (g : α → Nat) (l : List α) : preN g l l.length = (l.map g).sum := by simp [preN]
theorem preN_zero {α : Type} (g : α → Nat) (l : List α) : preN g l 0 = 0 := by simp [preN]
theorem blkN_le (x : List Ins) : blkN x ≤ blkSz x := by
  unfold blkN blkSz
  have : x.length + (x.map insN).sum = (x.map insSz).sum := by
    induction x with
    | nil => rfl
    | cons i x ih =>
      simp only [List.map_cons, List.sum_cons, List.length_cons]
      have : insSz i = 1 + insN i := by unfold insSz insN; omega
      omega
  omega
theorem totN_le {f : Fun} : totN f ≤ 2 * funSz f := by
  unfold totN funSz blksSz
  have h1 : f.blocks.length + (f.blocks.map blkN).sum ≤ (f.blocks.map blkSz).sum + (f.blocks.map blkSz).sum := by
    generalize f.blocks = l
    induction l with
    | nil => simp
    | cons x l ih =>
      simp only [List.map_cons, List.sum_cons, List.length_cons]
      have h2 := blkN_le x
      have h3 : 1 ≤ blkSz x := by unfold blkSz; omega
      omega
  omega
def RetB (r : Bool) (w : World) (e : Ending) (w' : World) : Prop := e = .returned (.bool r) ∧ Below w.heap.size w w'
theorem ret_classb {P : Program} {k : Nat} {args : Array Value} {r : Bool} {W w9 : World} (c : Calls P k args w9 (RetB r w9)) (h : Below W.heap.size W w9) :
    Calls P k args w9 fun e w'' => e = .returned (.bool r) ∧ Below W.heap.size W w'' := c.mono fun _ _ h' => ⟨h'.1, h.trans (h'.2.mono h.size)⟩
set_option maxRecDepth 100000 in
set_option maxHeartbeats 1600000 in
theorem few1_any (f : Fun) (most : Int) (e : Value) (w : World) (B : Nat) (hB : B ≤ w.heap.size) (hf : RFuns.rep w B [e] [f]) (hsz : totN f ≤ 4000000) :
    Calls Try.prog 24 #[.agg #[.slice none 0 0, .slice none 0 0, e], .int .i64 most] w (RetB (decide ((totN f : Int) ≤ most)) w) := by
  obtain ⟨A3, k3, h3, hm3, gf⟩ := Rp.slice_open (RFuns.later hf (Below.refl _ _) hB)
  cases h3
  obtain ⟨b1, o1, rfl, he1⟩ := gf (by simp)
  obtain ⟨_, _, ⟨c1, c2, rfl, hr1, hr2, -⟩, hc1⟩ := he1 0 f rfl
  clear hf gf he1
  obtain ⟨W, hW, hwW, hWs, hbx⟩ := boxes1 w #[.slice none 0 0, .slice none 0 0, .slice (some ⟨b1, o1, none⟩) 1 k3] 26
  have x0 := hbx 0 _ rfl
  have x1 := hbx 1 _ rfl
  have x2 := hbx 2 _ rfl
  clear hbx
  have hsw : w.heap.size ≤ W.heap.size := by omega
  replace hWs := hide hWs
  obtain ⟨p0, p1, p2, p3⟩ := (hc1.later hwW hsw).four
  simp only [Nat.zero_mul, Nat.add_zero] at p0 p1 p2 p3
  obtain ⟨A4, k4, h4, hm4, -⟩ := Rp.slice1_open hr1
  obtain ⟨A5, k5, h5, hm5, gb⟩ := Rp.slice1_open hr2
  cases h4; cases h5
  replace gb := hide gb
  clear hr1 hr2 hc1
  have hself := Below.refl W.heap.size W
  obtain ⟨np, hnp⟩ : ∃ np, Hid (np = f.params.length) := ⟨_, hide rfl⟩
  obtain ⟨nb, hnb⟩ : ∃ nb, Hid (nb = f.blocks.length) := ⟨_, hide rfl⟩
  obtain ⟨T, hT⟩ : ∃ T, Hid (T = totN f) := ⟨_, hide rfl⟩
  have hTe : Hid (T = 1 + (np + nb) + (f.blocks.map blkN).sum) := hide (by rw [hT.out, hnp.out, hnb.out]; rfl)
  rw [← hT.out] at hsz ⊢
  rw [← hnp.out] at hm4 p1
  rw [← hnb.out] at hm5 p3
  have hbnd : np + nb ≤ 4000000 := by have := hTe.out; omega
  go_enter Try.func24, Try.ntmps24
  go_wp2
  clear hW
  go_loopw [5, 28] (fun n i wr => i = .int .i64 0 ∧ n = .int .i64 1 ∧ wr = W) (fun _ i _ => 0)
  case atStart => exact ⟨rfl, rfl, rfl⟩
  case round =>
    obtain ⟨rfl, rfl, hw9⟩ := hrel
    subst hw9
    rename World => W
    go_wp2
    go_loopw [5, 41] (fun n i wx => ∃ k m : Nat, k ≤ 1 ∧ i = .int .i64 k ∧ n = .int .i64 (m : Int) ∧ Hid (k = 0 → m = 1) ∧ Hid (k = 1 → m = T) ∧ Below W.heap.size W wx) (fun _ i _ => 1 - (intOf i).toNat)
    case atStart => exact ⟨0, 1, Nat.zero_le _, rfl, rfl, hide (fun _ => rfl), hide (fun h => by cases h), hself⟩
    case round =>
      rename World => V
      obtain ⟨k, m, hk, rfl, rfl, hm0, hm1, hbel⟩ := hrel
      by_cases hlt : k < 1
      · obtain rfl : k = 0 := by omega
        obtain rfl : m = 1 := hm0.out (by trivial)
        clear hm0 hm1
        have hbel2 : Below W.heap.size W (V.alloc (.cells #[.string f.name, .slice A4 np k4, .int .i64 f.ret, .slice A5 nb k5] 32)) := hbel.alloc hbel.size _
        clear hself
        go_wp2
        go_loopw [5, 57] (fun n i wx => ∃ j m : Nat, j ≤ nb ∧ i = .int .i64 j ∧ n = .int .i64 (m : Int) ∧ Hid (m = 1 + (np + nb) + preN blkN f.blocks j) ∧ Below W.heap.size W wx) (fun _ i _ => nb - (intOf i).toNat)
        case atStart => exact ⟨0, 1 + (np + nb), Nat.zero_le _, rfl, by go_num, hide (by rw [preN_zero]; omega), hbel2⟩
        case round =>
          clear hbel hbel2
          rename World => V2
          obtain ⟨j, m, hj, rfl, rfl, hm, hbel⟩ := hrel
          have hmT : m ≤ 4000000 := by have := hm.out; have := hTe.out; have := preN_le blkN f.blocks j; omega
          by_cases hlt3 : j < nb
          · obtain ⟨b2, o2, rfl, he2⟩ := gb.out (by have := hnb.out; omega)
            obtain ⟨bl, hbl⟩ := get_ex (l := f.blocks) (k := j) (by have := hnb.out; omega)
            obtain ⟨d1, hr3, hd1⟩ := he2 j bl hbl.out
            obtain ⟨A6, k6, h6, hm6, gi⟩ := Rp.slice_open hr3
            cases h6
            replace gi := hide gi
            have hd1' : ∀ w', Below W.heap.size W w' → w'.cell? ⟨b2, o2 + j, none⟩ = some (.slice A6 bl.length k6) := fun w' h => hd1 w' (hwW.trans (h.mono hsw))
            clear he2 hr3 hd1
            have hbel2 : Below W.heap.size W (V2.alloc (.cells #[.slice A6 bl.length k6] 36)) := hbel.alloc hbel.size _
            have hst : Hid (preN blkN f.blocks (j + 1) = preN blkN f.blocks j + (bl.length + (bl.map insN).sum)) := hide (preN_step hbl.out)
            obtain ⟨nl, hnl⟩ : ∃ nl, Hid (nl = bl.length) := ⟨_, hide rfl⟩
            rw [← hnl.out] at hm6 hd1' hbel2
            have hb6 : m + (nl + (bl.map insN).sum) ≤ 4000000 := by
              have := hst.out; have := hnl.out; have := hm.out; have := hTe.out; have := preN_le blkN f.blocks (j + 1); omega
            go_wp2
            go_loopw [5, 69] (fun n i wx => ∃ r m2 : Nat, r ≤ nl ∧ i = .int .i64 r ∧ n = .int .i64 (m2 : Int) ∧ Hid (m2 = m + nl + preN insN bl r) ∧ Below W.heap.size W wx) (fun _ i _ => nl - (intOf i).toNat)
            case atStart => exact ⟨0, m + nl, Nat.zero_le _, rfl, by go_num, hide (by rw [preN_zero]; omega), hbel2⟩
            case round =>
              clear hbel hbel2
              rename World => V3
              obtain ⟨r, m2, hr, rfl, rfl, hm2, hbel⟩ := hrel
              have hmT2 : m2 ≤ 4000000 := by have := hm2.out; have := preN_le insN bl r; omega
              by_cases hlt4 : r < nl
              · obtain ⟨b4, o4, rfl, he4⟩ := gi.out (by have := hnl.out; omega)
                obtain ⟨ins, hins⟩ := get_ex (l := bl) (k := r) (by have := hnl.out; omega)
                obtain ⟨_, _, ⟨c4, c5, rfl, ha, hto, -⟩, hc4⟩ := he4 r ins hins.out
                obtain ⟨q0, q1, q2, q3, q4, q5, q6⟩ := (hc4.later hwW hsw).seven
                obtain ⟨A7, k7, h7, hm7, -⟩ := Rp.slice_open ha
                obtain ⟨A8, k8, h8, hm8, -⟩ := Rp.slice1_open hto
                cases h7; cases h8
                clear he4 ha hto hc4
                obtain ⟨na, hna⟩ : ∃ na, Hid (na = ins.args.length) := ⟨_, hide rfl⟩
                obtain ⟨nt, hnt⟩ : ∃ nt, Hid (nt = ins.to.length) := ⟨_, hide rfl⟩
                rw [← hna.out] at hm7 q5
                rw [← hnt.out] at hm8 q6
                have hst2 : Hid (preN insN bl (r + 1) = preN insN bl r + (na + nt)) := hide (by rw [preN_step hins.out, hna.out, hnt.out]; rfl)
                have hb8 : m2 + (na + nt) ≤ 4000000 := by have := hst2.out; have := hm2.out; have := preN_le insN bl (r + 1); omega
                have hm3 : Hid (m2 + (na + nt) = m + nl + preN insN bl (r + 1)) := hide (by have := hst2.out; have := hm2.out; omega)
                have hbel2 : Below W.heap.size W (V3.alloc (.cells #[.int .i64 ins.op, .int .i64 ins.reg, .int .i64 ins.ty, .int .i64 ins.num, .int .i64 ins.flags, .slice A7 na k7, .slice A8 nt k8] 39)) := hbel.alloc hbel.size _
                by_cases hgt : ((m2 : Int) + ((na : Int) + (nt : Int))) > most
                · have hfin : Hid (decide ((T : Int) ≤ most) = false) := hide (by
                    rw [decide_eq_false_iff_not]
                    have := hm3.out; have := preN_le insN bl (r + 1); have := hst.out; have := hm.out; have := hTe.out; have := preN_le blkN f.blocks (j + 1); have := hnl.out
                    omega)
                  have hlast : Hid (Below w.heap.size w (V3.alloc (.cells #[.int .i64 ins.op, .int .i64 ins.reg, .int .i64 ins.ty, .int .i64 ins.num, .int .i64 ins.flags, .slice A7 na k7, .slice A8 nt k8] 39))) := hide (hwW.trans (hbel2.mono hsw))
                  go_wp2
                  go_ret
                  exact ⟨ret_bool hfin.out.symm, hlast.out⟩
                · go_wp2
                  go_roundw
                  case rel => exact ⟨r + 1, m2 + (na + nt), hlt4, by go_num, by go_num, hm3, hbel2⟩
                  case measure => simp [intOf]; omega
              · obtain rfl : r = nl := by omega
                have hm3 : Hid (m2 = 1 + (np + nb) + preN blkN f.blocks (j + 1)) := hide (by
                  have h1 := hm2.out
                  have h2 := hnl.out
                  rw [h2, preN_end] at h1
                  have := hst.out; have := hm.out; omega)
                go_wp2
                go_roundw
                case rel => exact ⟨j + 1, m2, hlt3, by go_num, rfl, hm3, hbel⟩
                case measure => simp [intOf]; omega
          · obtain rfl : j = nb := by omega
            have hm3 : Hid (m = T) := hide (by
              have h1 := hm.out
              rw [hnb.out, preN_end, ← hnb.out] at h1
              have := hTe.out; omega)
            go_wp2
            go_roundw
            case rel => exact ⟨1, m, Nat.le_refl _, by go_num, rfl, hide (fun h => by cases h), hide (fun _ => hm3.out), hbel⟩
            case measure => simp [intOf]
      · obtain rfl : k = 1 := by omega
        obtain rfl : m = T := hm1.out (by trivial)
        clear hm0 hm1
        go_wp2
        go_ret
        exact ⟨rfl, hwW.trans (hbel.mono hsw)⟩
end Go.Proofs.Ytamjcafjdioidaa

namespace Go.Proofs.Ytamjcafjdioidaa
open Go.RowKit
set_option linter.unusedSimpArgs false
set_option linter.unusedVariables false

def longF (f : Fun) : Bool := decide (80 < f.blocks.length) || decide (5000 < totN f)
end Go.Proofs.Ytamjcafjdioidaa
