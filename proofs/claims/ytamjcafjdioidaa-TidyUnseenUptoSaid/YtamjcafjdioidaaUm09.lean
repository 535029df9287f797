/- Texts of the chain, without what is not wanted: Mf, TdP, DelP. No condition but sizes. -/
import Derived.WalkKit
import Derived.Deep.Slices
import Derived.Deep.Draws
import Derived.ChangeSame
import Derived.ChangeOld
import Derived.OwnWalk
import Derived.Laws.OwnMore
import Derived.Deep.AppendLies
import Derived.Test.YtamjcafjdioidaaRows
import Derived.ProofKit
import Derived.OpenShut
import Derived.JoinedCond
import Derived.WalkSpells
import Derived.WalkLawsBesides
import Derived.Deep.RegionHeld3
import Derived.Deep.LoopGhost
import Derived.Deep.QuietTactic
import Derived.BigQuiet
import Derived.Deep.DeepCutAuto
import Derived.Deep.CutBlock
import Derived.StillTailTactics
import Derived.Deep.RegionLaw
import Derived.Lib.SliceRun
import Derived.Laws.IdiomCopy
import Derived.Test.YtamjcafjdioidaaUm01
import Derived.Test.YtamjcafjdioidaaUm02
import Derived.Test.YtamjcafjdioidaaUm03
import Derived.Test.YtamjcafjdioidaaUm04
import Derived.Test.YtamjcafjdioidaaUm05
import Derived.Test.YtamjcafjdioidaaUm06
import Derived.Test.YtamjcafjdioidaaUm07
import Derived.Test.YtamjcafjdioidaaUm08
namespace Go.Proofs.Ytamjcafjdioidaa
open Go.RowKit
set_option linter.unusedSimpArgs false
set_option linter.unusedVariables false
def TB (d : Value) (xs : List Value) (ess : List (List (Value × Value))) (k : Nat) : Prop := d.ownBlock = some k ∨ (∃ x, x ∈ xs ∧ x.ownBlock = some k) ∨ ∃ es e, es ∈ ess ∧ e ∈ es ∧ (e.1.ownBlock = some k ∨ e.2.ownBlock = some k)
structure MF (w : World) (T : Nat → Prop) (N : Nat) (f : Fun) (c d : Value) : Prop where
 box : w.heap[N]? = some (.cells #[.string f.name, c, .int .i64 f.ret, d] 32 (0, 0))
 tree : ∃ xs ess, OwnKd w 0 d f.blocks xs ess ∧ ∀ k, TB d xs ess k → T k
 par : OwnI w 0 c f.params
 far : ∀ k, c.ownBlock = some k → ¬ T k ∧ k ≠ N
 out : ¬ T N
 ret : I64 f.ret
 nm : f.name.size ≤ maxLen
section
variable {w w' : World} {T T' : Nat → Prop} {N : Nat} {f : Fun} {c d : Value} {xs : List Value} {ess : List (List (Value × Value))} {bs : List (List Ins)}
theorem OwnKd.tb_lt (h : OwnKd w 0 d bs xs ess) {k : Nat} (hk : TB d xs ess k) : k < w.heap.size := by
 rcases hk with h1 | ⟨x, hx, h1⟩ | ⟨es, e, he, hee, h1⟩
 ·exact (row_lt h.row h1).2.1
 ·exact (h.own_x hx k h1).2
 ·have h2 := h.own_at (List.mem_flatten.2 ⟨es, he, hee⟩) k
  rcases h1 with h1 | h1
  ·exact (h2.1 h1).2
  ·exact (h2.2 h1).2
theorem OwnKd.tb_kept (h : OwnKd w 0 d bs xs ess) (hk : ∀ k, k < w.heap.size → TB d xs ess k → w'.heap[k]? = w.heap[k]?) : OwnKd w' 0 d bs xs ess := by
 refine ⟨row_kept h.row fun k hv => hk k (row_lt h.row hv).2.1 (.inl hv), h.lene, fun i x b es hx hb he => ?_, h.ndx, h.nda, h.ndt⟩
 have h1 := h.inn i x b es hx hb he
 refine ⟨h1.len, row_kept h1.row fun k hv => hk k (row_lt h1.row hv).2.1 (.inr (.inl ⟨x, List.mem_of_getElem? hx, hv⟩)), fun j y e hy hee => ?_, h1.nda, h1.ndt⟩
 obtain ⟨g1, g2, g3⟩ := h1.inn j y e hy hee
 exact ⟨⟨row_kept g1.row fun k hv => hk k (row_lt g1.row hv).2.1 (.inr (.inr ⟨es, e, List.mem_of_getElem? he, List.mem_of_getElem? hee, .inl hv⟩)), g1.ok⟩, ⟨row_kept g2.row fun k hv => hk k (row_lt g2.row hv).2.1 (.inr (.inr ⟨es, e, List.mem_of_getElem? he, List.mem_of_getElem? hee, .inr hv⟩)), g2.ok⟩, g3⟩
theorem MF.kept (h : MF w T N f c d) (hk : ∀ k, k < w.heap.size → T k ∨ k = N ∨ c.ownBlock = some k → w'.heap[k]? = w.heap[k]?) : MF w' T N f c d := by
 obtain ⟨xs, ess, h1, h2⟩ := h.tree
 refine ⟨?_, ⟨xs, ess, h1.tb_kept fun k hk1 hk2 => hk k hk1 (.inl (h2 k hk2)), h2⟩, ⟨row_kept h.par.row fun k hv => hk k (row_lt h.par.row hv).2.1 (.inr (.inr hv)), h.par.ok⟩, h.far, h.out, h.ret, h.nm⟩
 rw [hk N (Array.getElem?_eq_some_iff.1 h.box).1 (.inr (.inl rfl))]
 exact h.box
theorem MF.below (h : MF w T N f c d) (hb : Below w.heap.size w w') : MF w' T N f c d := h.kept fun k hk _ => hb.block k hk
theorem MF.mono (h : MF w T N f c d) (hT : ∀ k, T k → T' k) (hN : ¬ T' N) (hc : ∀ k, c.ownBlock = some k → ¬ T' k) : MF w T' N f c d := by
 obtain ⟨xs, ess, h1, h2⟩ := h.tree
 exact ⟨h.box, ⟨xs, ess, h1, fun k hk => hT k (h2 k hk)⟩, h.par, fun k hk => ⟨hc k hk, (h.far k hk).2⟩, hN, h.ret, h.nm⟩
theorem MF.rep (h : MF w T N f c d) : RFun.rep w w.heap.size [.string f.name, c, .int .i64 f.ret, d] f := by
 obtain ⟨xs, ess, h1, -⟩ := h.tree
 exact ⟨c, d, rfl, h.par.rep, h1.own.rep, h.ret, h.nm⟩
theorem MF.lt (h : MF w T N f c d) : N < w.heap.size := (Array.getElem?_eq_some_iff.1 h.box).1
theorem MF.with_ (h : MF w T N f c d) (ho : Only T w.heap.size w w') (ht : OwnKd w' 0 d bs xs ess) (hT : ∀ k, TB d xs ess k → T k) : MF w' T N (setBlocks f bs) c d := by
 refine ⟨?_, ⟨xs, ess, ht, hT⟩, ⟨row_kept h.par.row fun k hv => ho.block k (row_lt h.par.row hv).2.1 (h.far k hv).1, h.par.ok⟩, h.far, h.out, h.ret, h.nm⟩
 rw [ho.block N h.lt h.out]
 exact h.box
end
theorem row_prefix {w : World} {B : Nat} {e : TypeId} {s g n m C : Nat} {ys zs : List Value} (h : w.ownsRow B e s (.slice (some ⟨g, 0, none⟩) n C) n (ys ++ zs)) (hy : ys.length = m * s) (hm : m ≤ n) : w.ownsRow B e s (.slice (some ⟨g, 0, none⟩) m C) m ys := by
 refine ⟨hy, .inr ?_⟩
 rcases h.2 with ⟨e1, -⟩ | ⟨g', cap, cur, e1, hb, hh, h1, h2, h3, h4⟩
 ·cases e1
 ·cases e1
  refine ⟨g, C, cur, rfl, hb, hh, by omega, h2, h3, ?_⟩
  have h5 := congrArg (List.take (m * s)) h4
  rw [List.take_take, List.take_left' hy] at h5
  rw [← h5, Nat.min_eq_left (Nat.mul_le_mul_right s hm)]
def idxI (l : List Int) (t : Int) : Int := if t ∈ l then (l.idxOf t : Int) else -1
theorem take_mem {l : List Int} {t : Int} {k : Nat} (h : t ∉ l.take k) (hk : l[k]? = some t) : l.idxOf t = k := by
 have h1 := (List.getElem?_eq_some_iff.1 hk).1
 have h2 : l = l.take k ++ t :: l.drop (k + 1) := by
  rw [List.getElem?_eq_getElem h1] at hk
  injection hk with hk
  rw [← hk, List.getElem_cons_drop, List.take_append_drop]
 rw [h2, List.idxOf_append, if_neg h, List.idxOf_cons_self, List.length_take]
 omega
set_option maxHeartbeats 800000 in
theorem index2_any (u : Value) (l : List Int) (t : Int) (w : World) (B : Nat) (hB : B ≤ w.heap.size) (ha : RInts.rep w B [u] l) :
  Calls Try.prog 83 #[u, .int .i64 t] w (fun e w' => e = .returned (.int .i64 (idxI l t)) ∧ Below w.heap.size w w') := by
 obtain ⟨A1, c1, h1, hm1, ga⟩ := Rp.slice1_open (RInts.later ha (Below.refl _ _) hB)
 cases h1
 replace ga := hide ga
 have hself := Below.refl w.heap.size w
 obtain ⟨ix, hix⟩ : ∃ ix, Hid (ix = idxI l t) := ⟨_, hide rfl⟩
 rw [← hix.out]
 go_enter Try.func83, Try.ntmps83
 go_wp2
 go_loopw [8] (fun i wr => ∃ k : Nat, k ≤ l.length ∧ i = .int .i64 k ∧ Hid (t ∉ l.take k) ∧ Below w.heap.size w wr) (fun i _ => l.length - (intOf i).toNat)
 case atStart => exact ⟨0, Nat.zero_le _, rfl, hide (by simp), hself⟩
 case round =>
  obtain ⟨k, hk, rfl, hall, hbel⟩ := hrel
  by_cases hlt : k < l.length
  ·obtain ⟨b1, o1, rfl, he1⟩ := ga.out (by omega)
   obtain ⟨x, hx⟩ := get_ex hlt
   obtain ⟨_, ⟨hr1, _⟩, p0⟩ := he1 k x hx.out
   cases hr1
   clear he1
   cases hxy : (t == x) with
   | true =>
    have hin : Hid (∀ w', Below w.heap.size w w' → Ending.returned (.int .i64 (k : Int)) = .returned (.int .i64 ix) ∧ Below w.heap.size w w') := hide (fun w' h => by
     have e := eq_of_beq hxy
     subst e
     refine ⟨?_, h⟩
     rw [hix.out, idxI, if_pos (List.mem_of_getElem? hx.out), take_mem hall.out hx.out])
    go_wp2
    go_ret
    exact hin.out _ hbel
   | false =>
    have hin : Hid (t ∉ l.take (k + 1)) := hide (by
     rw [take_snoc hx.out]
     intro h
     rcases List.mem_append.1 h with h | h
     ·exact hall.out h
     ·rw [List.mem_singleton.1 h] at hxy; simp at hxy)
    go_wp2
    go_roundw
    case rel => exact ⟨k + 1, hlt, by go_num, hin, hbel⟩
    case measure => simp [intOf]; omega
  ·have hin : Hid (∀ w', Below w.heap.size w w' → Ending.returned (.int .i64 (-1)) = .returned (.int .i64 ix) ∧ Below w.heap.size w w') := hide (fun w' h => by
    refine ⟨?_, h⟩
    rw [hix.out, idxI, if_neg (by have := hall.out; rwa [List.take_of_length_le (by omega)] at this)])
   go_wp2
   go_ret
   exact hin.out _ hbel
theorem box_cell9 {w : World} {N : Nat} {cs : Array Value} {t : TypeId} {fr : Nat × Nat} (h : w.heap[N]? = some (.cells cs t fr)) (j : Nat) {u : Value} (hu : cs[j]? = some u) : w.cell? ⟨N, j, none⟩ = some u := by
 simp [World.cell?, h, hu]
theorem on_fact {w : World} {Q : Nat → Prop} {B N j : Nat} {u : Value} (h : w.cell? ⟨N, j, none⟩ = some u) (hN : N < B) (hQ : ¬ Q N) : ∀ w', Only Q B w w' → w'.cell? ⟨N, j, none⟩ = some u := fun w' hw => (hw.cell (p := ⟨N, j, none⟩) hN hQ).trans h
theorem be_fact {w : World} {N j : Nat} {u : Value} (h : w.cell? ⟨N, j, none⟩ = some u) (hN : N < w.heap.size) : ∀ w', Below w.heap.size w w' → w'.cell? ⟨N, j, none⟩ = some u := fun w' hb => (hb.cell (p := ⟨N, j, none⟩) hN).trans h
theorem on_free {w : World} {Q : Nat → Prop} {B N j : Nat} (h : w.frozen? ⟨N, j, none⟩ = false) (hN : N < B) (hQ : ¬ Q N) : ∀ w', Only Q B w w' → w'.frozen? ⟨N, j, none⟩ = false := fun w' hw => by
 have e := hw.block N hN hQ
 simp only [World.frozen?, e] at h ⊢
 exact h
theorem ty_ne {w : World} {g g' : Nat} {T T' : TypeId} (h : ∃ c, w.heap[g]? = some (.cells c T (0, 0))) (h' : ∃ c, w.heap[g']? = some (.cells c T' (0, 0))) (hT : T ≠ T') : g ≠ g' := by
 rintro rfl
 obtain ⟨c, h⟩ := h
 obtain ⟨c', h'⟩ := h'
 rw [h] at h'
 cases h'
 exact hT rfl
theorem row_bound {w : World} {B : Nat} {e : TypeId} {s n : Nat} {v : Value} {ys : List Value} (h : w.ownsRow B e s v n ys) : n ≤ 9223372036854775807 := by
 rcases h.2 with ⟨-, h0⟩ | ⟨g, cap, cur, -, -, -, h1, h2, -⟩
 ·omega
 ·unfold maxLen at h2; omega
theorem row_free {w : World} {B : Nat} {e : TypeId} {s g n n' C : Nat} {ys : List Value} (h : w.ownsRow B e s (.slice (some ⟨g, 0, none⟩) n C) n' ys) (j : Nat) : w.frozen? ⟨g, j, none⟩ = false := by
 have hn : n = n' := by
  rcases h.2 with ⟨e1, -⟩ | ⟨g', cap, cur, e1, -⟩
  ·cases e1
  ·cases e1; rfl
 subst hn
 exact World.ownsRow.frozenAt h j
theorem OwnKd.blk_cell {w : World} {gd n C b : Nat} {bs : List (List Ins)} {xs : List Value} {ess : List (List (Value × Value))} {x : Value} (h : OwnKd w 0 (.slice (some ⟨gd, 0, none⟩) n C) bs xs ess) (hx : xs[b]? = some x) : w.cell? ⟨gd, b, none⟩ = some x := by
 have hn : n = bs.length := by
  rcases h.row.2 with ⟨e, -⟩ | ⟨g, cap, cur, e, -⟩
  ·cases e
  ·cases e; rfl
 subst hn
 have h1 := (List.getElem?_eq_some_iff.1 hx).1
 rw [World.ownsRow.cellAt h.row b (by rw [← h.lenx]; omega), hx]
end Go.Proofs.Ytamjcafjdioidaa

namespace Go.Proofs.Ytamjcafjdioidaa
set_option linter.unusedVariables false
def isPhi (x : Ins) : Bool := x.op == 25
def dropP (p : Int) (x : Ins) : Ins := if p ∈ x.to then ⟨x.op, x.reg, x.ty, x.num, x.flags, x.args.eraseIdx (x.to.idxOf p), x.to.eraseIdx (x.to.idxOf p)⟩ else x
def loseL (p : Int) (l : List Ins) : List Ins := (l.takeWhile isPhi).map (dropP p) ++ l.dropWhile isPhi
def PhiLen (l : List Ins) : Prop := ∀ x, x ∈ l → x.op = 25 → x.args.length = x.to.length
def mixP (p : Int) (l : List Ins) (i : Nat) : List Ins := (l.take i).map (dropP p) ++ l.drop i
theorem mixP_zero (p : Int) (l : List Ins) : mixP p l 0 = l := by simp [mixP]
theorem mixP_len (p : Int) (l : List Ins) (i : Nat) : (mixP p l i).length = l.length := by unfold mixP; simp; omega
theorem mixP_at {p : Int} {l : List Ins} {i : Nat} {x : Ins} (h : l[i]? = some x) : (mixP p l i)[i]? = some x := by
 have h1 := (List.getElem?_eq_some_iff.1 h).1
 unfold mixP
 rw [List.getElem?_append_right (by simp; omega), List.length_map, List.length_take, Nat.min_eq_left (by omega), Nat.sub_self, List.getElem?_drop]
 exact h
theorem mixP_next {p : Int} {l : List Ins} {i : Nat} {x : Ins} (h : l[i]? = some x) : (mixP p l i).set i (dropP p x) = mixP p l (i + 1) := by
 have h1 := (List.getElem?_eq_some_iff.1 h).1
 have h2 : l.drop i = x :: l.drop (i + 1) := by
  rw [List.getElem?_eq_getElem h1] at h
  injection h with h
  rw [← h, List.getElem_cons_drop]
 have h3 : ((l.take i).map (dropP p)).length = i := by simp; omega
 unfold mixP
 rw [h2, List.set_append_right _ _ (by omega), h3, Nat.sub_self, List.set_cons_zero, List.take_add_one, h]
 simp
theorem mixP_stop {p : Int} {l : List Ins} {i : Nat} (h : ∀ (j : Nat) x, j < i → l[j]? = some x → x.op = 25) (hs : i = l.length ∨ ∃ x, l[i]? = some x ∧ x.op ≠ 25) : mixP p l i = loseL p l := by
 have key : ∀ (l : List Ins) (i : Nat), (∀ (j : Nat) x, j < i → l[j]? = some x → x.op = 25) → (i = l.length ∨ ∃ x, l[i]? = some x ∧ x.op ≠ 25) → l.takeWhile isPhi = l.take i ∧ l.dropWhile isPhi = l.drop i := by
  intro l
  induction l with
  | nil => intro i _ _; simp
  | cons y l ih =>
   intro i h hs
   cases i with
   | zero =>
    have hy : isPhi y = false := by
     rcases hs with h1 | ⟨x, h1, h2⟩
     ·simp at h1
     ·cases h1
      unfold isPhi
      rw [beq_eq_false_iff_ne]; exact h2
    rw [List.takeWhile_cons, List.dropWhile_cons, hy]
    simp
   | succ i =>
    have hy : isPhi y = true := by
     unfold isPhi
     rw [beq_iff_eq]
     exact h 0 y (by omega) rfl
    obtain ⟨h1, h2⟩ := ih i (fun j x hj hx => h (j + 1) x (by omega) (by simpa using hx)) (by
     rcases hs with h1 | ⟨x, h1, h2⟩
     ·left; simpa using h1
     ·right; exact ⟨x, by simpa using h1, h2⟩)
    rw [List.takeWhile_cons, List.dropWhile_cons, hy]
    simp [h1, h2]
 obtain ⟨h1, h2⟩ := key l i h hs
 unfold mixP loseL
 rw [h1, h2]
theorem dropP_no {p : Int} {x : Ins} (h : p ∉ x.to) : dropP p x = x := by unfold dropP; rw [if_neg h]
theorem mixP_same {p : Int} {l : List Ins} {i : Nat} {x : Ins} (h : l[i]? = some x) (hp : p ∉ x.to) : mixP p l i = mixP p l (i + 1) := by
 rw [← mixP_next h, dropP_no hp]
 apply List.ext_getElem?
 intro j
 by_cases e : i = j
 ·subst e
  rw [List.getElem?_set_self (by rw [mixP_len]; exact (List.getElem?_eq_some_iff.1 h).1), mixP_at h]
 ·rw [List.getElem?_set_ne e]
structure WfB (n : Nat) (l : List Ins) : Prop where
 ne : l ≠ []
 brif : ∀ x, x ∈ l → x.op = 32 → x.to.length = 2 ∧ x.args.length = 1
 br : ∀ x, x ∈ l → x.op = 31 → x.to.length = 1
 phi : PhiLen l
 to_ : ∀ x, x ∈ l → ∀ t, t ∈ x.to → 0 ≤ t ∧ t < n
def Wf (bs : List (List Ins)) : Prop := ∀ l, l ∈ bs → WfB bs.length l
def setEnd (l : List Ins) (x : Ins) : List Ins := l.set (l.length - 1) x
def endI (bs : List (List Ins)) (b : Nat) : Option Ins := (bs[b]?).bind fun l => l[l.length - 1]?
def brJ (t : Int) : Ins := ⟨31, -1, 0, 0, 0, [], [t]⟩
def twB (R : List Bool) (bs : List (List Ins)) (b : Nat) : Bool := R.getD b false && match endI bs b with | some x => decide (x.op = 32) && decide (x.to.getD 0 0 = x.to.getD 1 0) | none => false
def twiceS (R : List Bool) (bs : List (List Ins)) : Option (List (List Ins)) := ((List.range bs.length).find? (twB R bs)).map fun b => bs.set b (setEnd (bs.getD b []) (brJ (((endI bs b).map fun x => x.to.getD 0 0).getD 0)))
theorem find_range {n i : Nat} {p : Nat → Bool} (hi : i < n) (hp : p i = true) (hno : ∀ j, j < i → p j = false) : (List.range n).find? p = some i := by
 rw [List.find?_range_eq_some]
 exact ⟨hp, List.mem_range.2 hi, fun j hj => by simp [hno j hj]⟩
theorem find_range_none {n : Nat} {p : Nat → Bool} (hno : ∀ j, j < n → p j = false) : (List.range n).find? p = none := by
 rw [List.find?_eq_none]
 intro j hj
 simp [hno j (List.mem_range.1 hj)]
theorem endI_at {bs : List (List Ins)} {b q : Nat} {l : List Ins} {x : Ins} (hb : bs[b]? = some l) (hq : l.length = q + 1) (hx : l[q]? = some x) : endI bs b = some x := by
 unfold endI
 rw [hb]
 show l[l.length - 1]? = some x
 rw [hq, Nat.add_sub_cancel]
 exact hx
def dcB (R : List Bool) (bs : List (List Ins)) (b : Nat) : Bool := R.getD b false && match endI bs b with | some x => decide (x.op = 32) && decide ((x.args.getD 0 ⟨0, 0, 0⟩).kind = 2) | none => false
def goesI (x : Ins) : Int × Int := if (x.args.getD 0 ⟨0, 0, 0⟩).bits = 1 then (x.to.getD 0 0, x.to.getD 1 0) else (x.to.getD 1 0, x.to.getD 0 0)
def loseB (p : Int) (bs : List (List Ins)) (b : Nat) : List (List Ins) := bs.set b (loseL p (bs.getD b []))
def decAt (bs : List (List Ins)) (b : Nat) (o : Int × Int) : List (List Ins) := if o.2 = o.1 then bs.set b (setEnd (bs.getD b []) (brJ o.1)) else loseB b (bs.set b (setEnd (bs.getD b []) (brJ o.1))) o.2.toNat
def decidedS (R : List Bool) (bs : List (List Ins)) : Option (List (List Ins)) := ((List.range bs.length).find? (dcB R bs)).map fun b => decAt bs b (((endI bs b).map goesI).getD (0, 0))
theorem phiLen_setEnd {l : List Ins} {x : Ins} (h : PhiLen l) (hx : x.op ≠ 25) : PhiLen (setEnd l x) := fun y hy ho => by
 rcases List.mem_or_eq_of_mem_set hy with h1 | h1
 ·exact h y h1 ho
 ·rw [h1] at ho; exact (hx ho).elim
end Go.Proofs.Ytamjcafjdioidaa

namespace Go.Proofs.Ytamjcafjdioidaa
open Go.RowKit
set_option linter.unusedVariables false
def patch (xs : List Value) : Nat → List Value → List Value
 | _, [] => xs
 | o, v :: r => patch (xs.set o v) (o + 1) r
theorem patch_eq : ∀ (vs : List Value) (xs : List Value) (o : Nat), o + vs.length ≤ xs.length → patch xs o vs = xs.take o ++ vs ++ xs.drop (o + vs.length)
 | [], xs, o, h => by simp [patch]
 | v :: r, xs, o, h => by
  simp only [List.length_cons] at h
  rw [patch, patch_eq r (xs.set o v) (o + 1) (by rw [List.length_set]; omega)]
  have h1 : (xs.set o v).take (o + 1) = xs.take o ++ [v] := by
   apply List.ext_getElem?
   intro i
   rw [List.getElem?_take]
   by_cases hi : i < o + 1
   ·rw [if_pos hi]
    by_cases e : i = o
    ·subst e
     rw [List.getElem?_set_self (by omega), List.getElem?_append_right (by rw [List.length_take]; omega), List.length_take, show i - min i xs.length = 0 by omega]
     rfl
    ·rw [List.getElem?_set_ne (Ne.symm e), List.getElem?_append_left (by rw [List.length_take]; omega), List.getElem?_take, if_pos (by omega)]
   ·rw [if_neg hi, List.getElem?_eq_none (by simp; omega)]
  have h2 : (xs.set o v).drop (o + 1 + r.length) = xs.drop (o + (r.length + 1)) := by
   rw [List.drop_set_of_lt (by omega), show o + 1 + r.length = o + (r.length + 1) by omega]
  rw [h1, h2]
  simp
theorem row_setCells {B : Nat} {T : TypeId} {s g n C : Nat} : ∀ (vs : List Value) (o : Nat) (w : World) (xs : List Value), w.ownsRow B T s (.slice (some ⟨g, 0, none⟩) n C) n xs → (w.setCells g o vs).ownsRow B T s (.slice (some ⟨g, 0, none⟩) n C) n (patch xs o vs)
 | [], o, w, xs, h => h
 | v :: r, o, w, xs, h => row_setCells r (o + 1) _ _ (World.ownsRow.stored h o v).1
theorem only_setCells {S : Nat → Prop} {B g : Nat} {a : World} (hg : S g) : ∀ (vs : List Value) (o : Nat) (w : World), Only S B a w → Only S B a (w.setCells g o vs)
 | [], o, w, h => h
 | v :: r, o, w, h => only_setCells hg r (o + 1) _ (h.setCell (p := ⟨g, o, none⟩) (.inl hg) v)
theorem row_cells {w : World} {B : Nat} {T : TypeId} {s g n C : Nat} {xs : List Value} (h : w.ownsRow B T s (.slice (some ⟨g, 0, none⟩) n C) n xs) {j : Nat} (hj : j < C * s) : (w.cell? ⟨g, j, none⟩).isSome = true ∧ w.frozen? ⟨g, j, none⟩ = false := by
 refine ⟨?_, World.ownsRow.frozenAt h j⟩
 rcases h.2 with ⟨e, -⟩ | ⟨g', cap, cur, e, -, hh, -, -, hs, -⟩
 ·cases e
 ·cases e
  simp only [World.cell?, hh]
  rw [Array.getElem?_eq_getElem (by omega)]
  rfl
theorem patch_del {xs Z : List Value} {n s i : Nat} (hx : xs.length = n * s) (hi : i < n) (hz : Z.length = s) :
  patch (patch xs (i * s) (xs.drop ((i + 1) * s))) ((n - 1) * s) Z = xs.take (i * s) ++ xs.drop ((i + 1) * s) ++ Z := by
 obtain ⟨m, rfl⟩ : ∃ m, n = i + 1 + m := ⟨n - (i + 1), by omega⟩
 have e1 : (i + 1 + m) * s = i * s + s + m * s := by rw [Nat.add_mul, Nat.add_mul]; omega
 have e2 : (i + 1 + m - 1) * s = i * s + m * s := by rw [show i + 1 + m - 1 = i + m by omega, Nat.add_mul]
 have e3 : (i + 1) * s = i * s + s := by rw [Nat.add_mul]; omega
 rw [e1] at hx
 rw [e2, e3]
 have hd : (xs.drop (i * s + s)).length = m * s := by rw [List.length_drop]; omega
 rw [patch_eq (xs.drop (i * s + s)) xs (i * s) (by omega), hd]
 have ht : (xs.take (i * s)).length = i * s := by rw [List.length_take]; omega
 have hd2 : (xs.drop (i * s + m * s)).length = s := by rw [List.length_drop]; omega
 generalize xs.take (i * s) = A at ht ⊢
 generalize xs.drop (i * s + s) = D at hd ⊢
 generalize xs.drop (i * s + m * s) = E at hd2 ⊢
 have hl : (A ++ D).length = i * s + m * s := by rw [List.length_append]; omega
 rw [patch_eq Z (A ++ D ++ E) _ (by rw [List.length_append]; omega), List.take_left' hl, List.drop_eq_nil_of_le (by rw [List.length_append]; omega), List.append_nil]
theorem run_clear_one {P : Program} (w : World) (t e ty : TypeId) (z : Value) (zs : List Value) (ht : P.underlying t = some (.slice e)) (hv : ∀ w, (zeroValue e).run P w = .ok z w) (hz : (Builtin.zeroCells z.cells 1).toList = zs) (h1 : ∀ v, v ∈ zs → v.oneCell' = true) (b o c : Nat)
  (hc : ∀ j, j < zs.length → (w.cell? ⟨b, o + j, none⟩).isSome = true) (hf : ∀ j, j < zs.length → w.frozen? ⟨b, o + j, none⟩ = false) :
  (Builtin.clear_ #[t] ty #[.slice (some ⟨b, o, none⟩) 1 c]).run P w = .ok (.tuple #[]) (w.setCells b o zs) := by
 have hst := run_storeCells_cells (P := P) b o zs 0 w (by simpa using hc) (by simpa using hf) h1
 simp only [Nat.add_zero] at hst
 simp [Builtin.clear_, run_underlying ht, hv, hz, hst]
end Go.Proofs.Ytamjcafjdioidaa
