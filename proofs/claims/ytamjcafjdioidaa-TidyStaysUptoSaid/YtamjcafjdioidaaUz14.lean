/- Texts of the chain, without what is not wanted: GrI. No condition but sizes. -/
import Derived.WalkKit
import Derived.Deep.Slices
import Derived.Deep.Draws
import Derived.ChangeSame
import Derived.ChangeOld
import Derived.OwnWalk
import Derived.Laws.OwnMore
import Derived.Deep.AppendLies
import Derived.Test.YtamjcafjdioidaaRows
import Derived.ProofKit
import Derived.OpenShut
import Derived.JoinedCond
import Derived.WalkSpells
import Derived.WalkLawsBesides
import Derived.Deep.RegionHeld3
import Derived.Deep.LoopGhost
import Derived.Deep.QuietTactic
import Derived.BigQuiet
import Derived.Deep.DeepCutAuto
import Derived.Deep.CutBlock
import Derived.StillTailTactics
import Derived.Deep.RegionLaw
import Derived.Test.YtamjcafjdioidaaUz01
import Derived.Test.YtamjcafjdioidaaUz02
import Derived.Test.YtamjcafjdioidaaUz04
import Derived.Test.YtamjcafjdioidaaUz05
import Derived.Test.YtamjcafjdioidaaUz06
namespace Go.Proofs.Ytamjcafjdioidaa
open Go.RowKit
set_option linter.unusedSimpArgs false
set_option linter.unusedVariables false
def RestAt (w : World) (no : Option Nat) (c : Value) (l : List Int) : Prop :=
 ∃ A cap, c = .slice A l.length cap ∧ l.length ≤ cap ∧ cap ≤ maxLen ∧ (0 < l.length → ∃ b off cur, A = some ⟨b, off, none⟩ ∧ no ≠ some b ∧ w.heap[b]? = some (.cells cur 3 (0, 0)) ∧ ∀ (i : Nat) x, l[i]? = some x → cur[off + i]? = some (.int .i64 x))
section
variable {w w' : World} {no no' : Option Nat} {c : Value} {l : List Int} {B : Nat}
theorem RestAt.turn (h : RestAt w no c l) (hk : ∀ (k : Nat) cur, w.heap[k]? = some (.cells cur 3 (0, 0)) → no ≠ some k → w'.heap[k]? = w.heap[k]? ∧ no' ≠ some k) : RestAt w' no' c l := by
 obtain ⟨A, cap, h1, h2, h3, h4⟩ := h
 refine ⟨A, cap, h1, h2, h3, fun hl => ?_⟩
 obtain ⟨b, off, cur, g1, g2, g3, g4⟩ := h4 hl
 exact ⟨b, off, cur, g1, (hk b cur g3 g2).2, (hk b cur g3 g2).1.trans g3, g4⟩
theorem RestAt.but {T : TypeId} (h : RestAt w no c l) (hb : But T w w') (hT : 3 ≠ T) : RestAt w' no c l := h.turn fun k cur hk hn => ⟨hb k cur _ _ hk hT, hn⟩
theorem RestAt.below (h : RestAt w no c l) (hb : Below w.heap.size w w') : RestAt w' no c l := h.turn fun k cur hk hn => ⟨hb.block k (Array.getElem?_eq_some_iff.1 hk).1, hn⟩
theorem RestAt.of_own {v : Value} (h : OwnI w B v l) (hno : ∀ k, B ≤ k → no ≠ some k) : RestAt w no v l := by
 obtain ⟨h0, hr⟩ := h.row
 rcases hr with ⟨rfl, h1⟩ | ⟨g, cap, cur, rfl, hb, hg, hn, hc, hs, ht⟩
 ·exact ⟨none, 0, by rw [h1], by omega, by simp [maxLen], fun hl => by omega⟩
 ·refine ⟨_, cap, rfl, hn, hc, fun hl => ⟨g, 0, cur, rfl, hno g hb, hg, fun i x hi => ?_⟩⟩
  have hil := (List.getElem?_eq_some_iff.1 hi).1
  have h2 : (l.map fun z => Value.int .i64 z)[i]? = some (.int .i64 x) := by rw [List.getElem?_map, hi]; rfl
  rw [← ht, List.getElem?_take_of_lt (by omega), Array.getElem?_toList] at h2
  rw [Nat.zero_add]; exact h2
theorem RestAt.tail {t : Int} {A : Option Addr} {n cap : Nat} (h : RestAt w no (.slice A n cap) (t :: l)) : ∃ b off, A = some ⟨b, off, none⟩ ∧ n = l.length + 1 ∧ l.length + 1 ≤ cap ∧ cap ≤ maxLen ∧ w.cell? ⟨b, off, none⟩ = some (.int .i64 t) ∧ ∀ A', (0 < l.length → A' = some ⟨b, off + 1, none⟩) → RestAt w no (.slice A' l.length (cap - 1)) l := by
 obtain ⟨A', cap', h1, h2, h3, h4⟩ := h
 cases h1
 obtain ⟨b, off, cur, g1, g2, g3, g4⟩ := h4 (by simp)
 refine ⟨b, off, g1, by simp, by simpa using h2, h3, ?_, fun A2 hA2 => ⟨A2, cap - 1, rfl, by simp at h2; omega, by omega, fun hl => ⟨b, off + 1, cur, hA2 hl, g2, g3, fun i x hi => ?_⟩⟩⟩
 ·have := g4 0 t rfl
  simp [World.cell?, g3]
  simpa using this
 ·have := g4 (i + 1) x (by simpa using hi)
  rw [show off + 1 + i = off + (i + 1) by omega]; exact this
end
def stc : List (Int × List Int) → List Value → List Value
 | p :: st, c :: cs => stc st cs ++ [.int .i64 p.1, c]
 | _, _ => []
theorem stc_len : ∀ (st : List (Int × List Int)) (cs : List Value), cs.length = st.length → (stc st cs).length = st.length * 2
 | [], [], _ => rfl
 | [], c :: cs, h => by simp at h
 | p :: st, [], h => by simp at h
 | p :: st, c :: cs, h => by
  have := stc_len st cs (by simpa using h)
  simp only [stc, List.length_append, this, List.length_cons, List.length_nil]
  omega
def StackAt (w : World) (B : Nat) (no : Option Nat) (v : Value) (st : List (Int × List Int)) : Prop :=
 ∃ cs : List Value, cs.length = st.length ∧ w.ownsRow B 102 2 v st.length (stc st cs) ∧ ∀ (i : Nat) c p, cs[i]? = some c → st[i]? = some p → RestAt w no c p.2
section
variable {w w' : World} {no no' : Option Nat} {v : Value} {st : List (Int × List Int)} {B : Nat}
theorem StackAt.but {T : TypeId} (h : StackAt w B no v st) (hb : But T w w') (h1 : 3 ≠ T) (h2 : 102 ≠ T) : StackAt w' B no v st := by
 obtain ⟨cs, a1, a2, a3⟩ := h
 exact ⟨cs, a1, hb.row h2 a2, fun i c p hc hp => (a3 i c p hc hp).but hb h1⟩
theorem StackAt.below (h : StackAt w B no v st) (hb : Below w.heap.size w w') : StackAt w' B no v st := by
 obtain ⟨cs, a1, a2, a3⟩ := h
 exact ⟨cs, a1, row_kept a2 fun k hk => hb.block k (row_lt a2 hk).2.1, fun i c p hc hp => (a3 i c p hc hp).below hb⟩
theorem StackAt.grown (h : StackAt w B no v st) (hg : w.grownBy w' no) (hn : ∀ k, no' = some k → no = some k ∨ w.heap.size ≤ k) (hv : ∀ k cur t f, no = some k → w.heap[k]? = some (.cells cur t f) → t = 3) : StackAt w' B no' v st := by
 obtain ⟨cs, a1, a2, a3⟩ := h
 refine ⟨cs, a1, row_kept a2 fun k hk => ?_, fun i c p hc hp => (a3 i c p hc hp).turn fun k cur hk hno => ?_⟩
 ·obtain ⟨-, h1, c', h2⟩ := row_lt a2 hk
  exact hg.block k h1 (fun e => by have := hv k _ _ _ e.symm h2; exact absurd this (by decide))
 ·have h1 := (Array.getElem?_eq_some_iff.1 hk).1
  refine ⟨hg.block k h1 (fun e => hno e.symm), fun e => ?_⟩
  rcases hn k e with h2 | h2
  ·exact hno h2
  ·omega
theorem StackAt.top {b : Int} {l : List Int} (h : StackAt w B no v ((b, l) :: st)) : ∃ g cap cs A C, v = .slice (some ⟨g, 0, none⟩) (st.length + 1) cap ∧ B ≤ g ∧ g < w.heap.size ∧ st.length + 1 ≤ cap ∧ cap ≤ maxLen ∧ cs.length = st.length ∧
  w.ownsRow B 102 2 v (st.length + 1) (stc st cs ++ [.int .i64 b, .slice A l.length C]) ∧ RestAt w no (.slice A l.length C) l ∧ (∀ (i : Nat) c p, cs[i]? = some c → st[i]? = some p → RestAt w no c p.2) ∧
  w.cell? ⟨g, st.length * 2, none⟩ = some (.int .i64 b) ∧ w.cell? ⟨g, st.length * 2 + 1, none⟩ = some (.slice A l.length C) := by
 obtain ⟨cs, a1, a2, a3⟩ := h
 match cs, a1 with
 | c :: cs, a1 =>
  have a1' : cs.length = st.length := by simpa using a1
  have h0 := a3 0 c _ rfl rfl
  obtain ⟨A, C, rfl, -, -, -⟩ := id h0
  obtain ⟨g, cap, hv, hb, hlt⟩ := a2.form (by simp)
  subst hv
  have hl := stc_len st cs a1'
  refine ⟨g, cap, cs, A, C, rfl, hb, hlt, ?_, ?_, a1', a2, h0, fun i c p hc hp => a3 (i + 1) c p (by simpa using hc) (by simpa using hp), ?_, ?_⟩
  ·rcases a2.2 with ⟨h, _⟩ | ⟨_, _, _, e, _, _, h, _⟩
   ·cases h
   ·cases e; exact h
  ·rcases a2.2 with ⟨h, _⟩ | ⟨_, _, _, e, _, _, _, h, _⟩
   ·cases h
   ·cases e; exact h
  ·rw [World.ownsRow.cellAt a2 _ (by first | (simp; omega) | simp)]
   show (stc st cs ++ [_, _])[_]? = _
   rw [List.getElem?_append_right (by omega), hl, Nat.sub_self]; rfl
  ·rw [World.ownsRow.cellAt a2 _ (by first | (simp; omega) | simp)]
   show (stc st cs ++ [_, _])[_]? = _
   rw [List.getElem?_append_right (by omega), hl, show st.length * 2 + 1 - st.length * 2 = 1 by omega]; rfl
theorem row_cut {e : TypeId} {size n cap g : Nat} {xs ys : List Value} (h : w.ownsRow B e size (.slice (some ⟨g, 0, none⟩) (n + 1) cap) (n + 1) (xs ++ ys)) (hx : xs.length = n * size) : w.ownsRow B e size (.slice (some ⟨g, 0, none⟩) n cap) n xs := by
 rcases h.2 with ⟨h1, _⟩ | ⟨g', cap', cur, hv, hb, hg, hn, hc, hs, ht⟩
 ·cases h1
 ·cases hv
  refine ⟨hx, .inr ⟨g, cap, cur, rfl, hb, hg, by omega, hc, hs, ?_⟩⟩
  have h2 : cur.toList.take (n * size) = (cur.toList.take ((n + 1) * size)).take (n * size) := by rw [List.take_take, Nat.min_eq_left (Nat.mul_le_mul_right _ (by omega))]
  rw [h2, ht, ← hx, List.take_left]
theorem StackAt.pop {g cap : Nat} {cs : List Value} {ys : List Value} (hc : cs.length = st.length) (h : w.ownsRow B 102 2 (.slice (some ⟨g, 0, none⟩) (st.length + 1) cap) (st.length + 1) (stc st cs ++ ys)) (hr : ∀ (i : Nat) c p, cs[i]? = some c → st[i]? = some p → RestAt w no c p.2) : StackAt w B no (.slice (some ⟨g, 0, none⟩) st.length cap) st :=
 ⟨cs, hc, row_cut h (stc_len st cs hc), hr⟩
theorem StackAt.shrink {g cap : Nat} {b : Int} {l : List Int} {cs : List Value} {c c' : Value} (hc : cs.length = st.length) (h : w.ownsRow B 102 2 (.slice (some ⟨g, 0, none⟩) (st.length + 1) cap) (st.length + 1) (stc st cs ++ [.int .i64 b, c])) (hr : ∀ (i : Nat) c p, cs[i]? = some c → st[i]? = some p → RestAt w no c p.2) (h0 : RestAt w no c' l) :
  StackAt (w.setCell ⟨g, st.length * 2 + 1, none⟩ c') B no (.slice (some ⟨g, 0, none⟩) (st.length + 1) cap) ((b, l) :: st) := by
 have h1 := (World.ownsRow.stored h (st.length * 2 + 1) c').1
 have hl := stc_len st cs hc
 rw [List.set_append, if_neg (by omega), hl, show st.length * 2 + 1 - st.length * 2 = 1 by omega] at h1
 have hb := But.stored (j := st.length * 2 + 1) (u := c') h
 refine ⟨c' :: cs, by simp [hc], h1, fun i c p h2 h3 => ?_⟩
 cases i with
 | zero => cases h2; cases h3; exact h0.but hb (by decide)
 | succ i => exact (hr i c p (by simpa using h2) (by simpa using h3)).but hb (by decide)
theorem StackAt.push {b : Int} {l : List Int} {c : Value} (h : StackAt w B no v st) (h0 : RestAt w no c l) : ∃ xs, w.ownsRow B 102 2 v st.length xs ∧ ∀ w' v', w'.ownsRow B 102 2 v' (st.length + 1) (xs ++ [.int .i64 b, c]) → But 102 w w' → StackAt w' B no v' ((b, l) :: st) := by
 obtain ⟨cs, a1, a2, a3⟩ := h
 refine ⟨_, a2, fun w' v' h1 hb => ⟨c :: cs, by simp [a1], h1, fun i c p h2 h3 => ?_⟩⟩
 cases i with
 | zero => cases h2; cases h3; exact h0.but hb (by decide)
 | succ i => exact (a3 i c p (by simpa using h2) (by simpa using h3)).but hb (by decide)
end
end Go.Proofs.Ytamjcafjdioidaa
namespace Go.Proofs.Ytamjcafjdioidaa
open Go.RowKit
set_option linter.unusedSimpArgs false
set_option linter.unusedVariables false
theorem cinfo_visit : (Try.prog.info? 102).map (fun i => (i.zero, i.size, i.bytes)) = some (some (.agg #[.int .i64 0, .slice none 0 0]), 2, 32) := by kernel_rfl
theorem cinfo_bool : (Try.prog.info? 4).map (fun i => (i.zero, i.size, i.bytes)) = some (some (.bool false), 1, 1) := by kernel_rfl
theorem bmap_set (l : List Bool) (k : Nat) (x : Bool) : (l.map Value.bool).set k (.bool x) = (l.set k x).map Value.bool := by simp [List.map_set]
theorem made_bools {w : World} {B g n : Nat} (h : w.ownsRow B 4 1 (.slice (some ⟨g, 0, none⟩) n n) n (madeCells #[Value.bool false] n).toList) : w.ownsRow B 4 1 (.slice (some ⟨g, 0, none⟩) n n) n ((List.replicate n false).map Value.bool) := by
 rwa [toList_madeCells_one, ← List.map_replicate (f := Value.bool)] at h
theorem below_grown0 {w w' : World} (hg : w.grownBy w' none) : Below w.heap.size w w' := ⟨hg.os, hg.tape, hg.output, hg.size, fun k hk => hg.block k hk (fun e => by cases e)⟩
theorem i64_mk {n : Int} (h1 : -9223372036854775808 ≤ n) (h2 : n ≤ 9223372036854775807) : I64 n := by
 have h3 : n ≤ 9223372036854775808 - 1 := by omega
 simp [I64, Lit.wf, IntKind.min, IntKind.max, IntKind.bits, IntKind.signed]
 omega
theorem stack_out {wr w1 : World} {B gq n : Nat} {u v : Value} {st : List (Int × List Int)} {xs : List Value} {o : Obj} (hp : StackAt wr B u.ownBlock v st) (hu : wr.ownsRow B 3 1 u n xs) (hg : (wr.alloc o).grownBy w1 u.ownBlock) (hq : u.ownBlock = some gq ∨ gq = wr.heap.size + 1) : StackAt w1 B (some gq) v st := by
 refine (hp.below ((Below.refl _ _).alloc (Nat.le_refl _) o)).grown (no' := some gq) hg (fun k hk => ?_) (fun k cur t f h1 h2 => ?_)
 ·cases hk
  rcases hq with h | h
  ·exact .inl h
  ·exact .inr (by rw [h]; simp)
 ·obtain ⟨-, -, c', h3⟩ := row_lt (hu.alloc o) h1
  rw [h3] at h2
  cases h2
  rfl
def OrdPost (l : List Int) (w : World) (e : Ending) (w' : World) : Prop := ∃ v, e = .returned v ∧ OwnI w' w.heap.size v l ∧ Below w.heap.size w w'
set_option maxRecDepth 100000 in
set_option maxHeartbeats 12800000 in
theorem order_any (f : Fun) (c1 c2 : Value) (w : World) (B : Nat) (hB : B ≤ w.heap.size) (hf : RFun.rep w B [.string f.name, c1, .int .i64 f.ret, c2] f) (hs : Small f) :
  Calls Try.prog 43 #[f.v c1 c2] w (OrdPost (orderF f.blocks) w) := by
 obtain ⟨hp, hb⟩ := fun_open (RFun.later hf (Below.refl _ _) hB)
 obtain ⟨A1, k1, h1, -, -⟩ := Rp.slice1_open hp
 obtain ⟨A2, k2, h2, hm2, -⟩ := Rp.slice1_open hb
 cases h1; cases h2
 clear hp hb
 obtain ⟨i0, hi0, hz0, hz1, hz2⟩ := cinfo_parts cinfo_int
 obtain ⟨j0, hj0, hy0, hy1, hy2⟩ := cinfo_parts cinfo_visit
 obtain ⟨b0, hb0, hx0, hx1, hx2⟩ := cinfo_parts cinfo_bool
 replace hi0 := hide hi0
 replace hz0 := hide hz0
 replace hz1 := hide hz1
 replace hz2 := hide hz2
 replace hj0 := hide hj0
 replace hy0 := hide hy0
 replace hy1 := hide hy1
 replace hy2 := hide hy2
 replace hb0 := hide hb0
 replace hx0 := hide hx0
 replace hx1 := hide hx1
 replace hx2 := hide hx2
 obtain ⟨n, hn⟩ : ∃ n, Hid (n = f.blocks.length) := ⟨_, hide rfl⟩
 have hnle : n ≤ 2000000 := by rw [hn.out]; exact hs.blocks
 rw [← hn.out] at hf hm2 ⊢
 obtain ⟨W, hW, hwW, hWs, hx⟩ := boxes1 w #[.string f.name, .slice A1 f.params.length k1, .int .i64 f.ret, .slice A2 n k2] 32
 have q0 : ∀ w', Below W.heap.size W w' → w'.cell? ⟨w.heap.size, 0, none⟩ = some (.string f.name) := hx 0 _ rfl
 have q1 : ∀ w', Below W.heap.size W w' → w'.cell? ⟨w.heap.size, 1, none⟩ = some (.slice A1 f.params.length k1) := hx 1 _ rfl
 have q2 : ∀ w', Below W.heap.size W w' → w'.cell? ⟨w.heap.size, 2, none⟩ = some (.int .i64 f.ret) := hx 2 _ rfl
 have q3 : ∀ w', Below W.heap.size W w' → w'.cell? ⟨w.heap.size, 3, none⟩ = some (.slice A2 n k2) := hx 3 _ rfl
 clear hx
 have hws : w.heap.size ≤ W.heap.size := by omega
 replace hWs := hide hWs
 have hself := Below.refl W.heap.size W
 obtain ⟨sc, hsc⟩ : ∃ sc, Hid (sc = succsF f.blocks) := ⟨_, hide rfl⟩
 have hsok : Hid (∀ b, SuccOk n (sc b)) := hide (fun b => by rw [hsc.out, hn.out]; exact succsF_ok _ _)
 have cS : Hid (∀ (b : Int) w', Below W.heap.size W w' → Calls Try.prog 64 #[f.v (.slice A1 f.params.length k1) (.slice A2 n k2), .int .i64 b] w' (SuccPost (sc b) w')) := hide (fun b w' h => by
  have hh := hwW.trans (h.mono hws)
  have := succs_any f b (.slice A1 f.params.length k1) (.slice A2 n k2) w' w'.heap.size (Nat.le_refl _) (RFun.later hf (hh.mono hB) (Nat.le_trans hB hh.size)) hs
  rwa [← hsc.out] at this)
 replace hs := hide hs
 replace hf := hide hf
 by_cases hn0 : n = 0
 ·have ho : Hid (orderF f.blocks = []) := hide (by unfold orderF; rw [← hn.out, if_pos hn0])
  subst hn0
  go_enter Try.func43, Try.ntmps43
  go_wp2
  go_ret
  exact ⟨_, rfl, by rw [ho.out]; exact OwnI.nil_, hwW⟩
 obtain ⟨R, hR⟩ : ∃ R, Hid (dfs sc [(0, sc 0)] ((List.replicate n false).set 0 true) [] = R) := ⟨_, hide rfl⟩
 have ho : Hid (orderF f.blocks = R.reverse) := hide (by unfold orderF; rw [← hn.out, if_neg hn0, ← hsc.out, hR.out])
 have hok0 := hide (dfsOk_start (n := n) (l := sc 0) (by omega) (hsok.out 0).bound)
 have e0 : ((n : Int) == 0) = false := by rw [beq_eq_false_iff_ne]; omega
 replace hwW := hide hwW
 go_enter Try.func43, Try.ntmps43
 go_wp2_with (at_make; refine wpList_make_full _ rfl (.tmp 14) (.tmp 14) _ rfl W.heap.size 4 b0 _ 1 Try.underlying53 hb0.out hx0.out hx1.out .i64 .i64 n n n rfl rfl rfl rfl ?c1 ?c2 (Nat.le_refl _) ?_)
 case c1 => rw [hx2.out]; omega
 case c2 => unfold maxLen; omega
 intro w1 hown1 hg1
 have hbel1 := below_grown0 hg1
 have hmk1 := made_bools hown1
 clear hg1 hown1
 have fz1 : w1.frozen? ⟨W.heap.size, 0, none⟩ = false := World.ownsRow.frozenAt hmk1 0
 have rz1 : w1.cell? ⟨W.heap.size, 0, none⟩ = some (.bool false) := by rw [World.ownsRow.cellAt hmk1 0 (by omega), List.getElem?_map, List.getElem?_replicate, if_pos (by omega)]; rfl
 have hmk2 := hide (World.ownsRow.stored hmk1 0 (.bool true)).1
 rw [bmap_set] at hmk2
 have hbel2 : Below W.heap.size W (w1.setCell ⟨W.heap.size, 0, none⟩ (.bool true)) := hbel1.setCell (p := ⟨W.heap.size, 0, none⟩) (Nat.le_refl _) (.bool true)
 have hs2 := hbel2.size
 clear hmk1
 go_wp2_with (first | (go_at_call 64; refine (cS.out 0 _ hbel2).mono ?_; rintro e w3 ⟨c, rfl, hO3, hb3⟩; obtain ⟨Ac, kc, hcf⟩ := row_form hO3.row; subst hcf))
 have hbel3 := hbel2.trans (hb3.mono hs2)
 have hmk3 := hide (row_kept hmk2.out fun k hk => hb3.block k (row_lt hmk2.out hk).2.1)
 have hst4 : Hid (StackAt (w3.alloc (.cells #[.int .i64 0, .slice Ac (sc 0).length kc] 102)) W.heap.size none (.slice (some ⟨w3.heap.size, 0, none⟩) 1 1) [(0, sc 0)]) := hide ⟨[.slice Ac (sc 0).length kc], rfl, ⟨rfl, .inr ⟨w3.heap.size, 1, _, rfl, hbel3.size, box_top _ _, Nat.le_refl _, by simp [maxLen], rfl, rfl⟩⟩, fun i c' p hc hp => by
  cases i with
  | zero => cases hc; cases hp; exact (RestAt.of_own hO3 (fun k _ e => by cases e)).below ((Below.refl _ _).alloc (Nat.le_refl _) _)
  | succ i => simp at hc⟩
 have hbel4 := hbel3.alloc hbel3.size (.cells #[.int .i64 0, .slice Ac (sc 0).length kc] 102)
 have hmk4 := hide (hmk3.out.alloc (.cells #[.int .i64 0, .slice Ac (sc 0).length kc] 102))
 clear hbel1 hbel2 hbel3 hb3 hmk2 hmk3 hO3 hs2 fz1 rz1
 obtain ⟨v4, hv4⟩ : ∃ v4, v4 = Value.slice (some ⟨w3.heap.size, 0, none⟩) 1 1 := ⟨_, rfl⟩
 rw [← hv4] at hst4 ⊢
 obtain ⟨w4, hw4⟩ : ∃ w4, w4 = w3.alloc (.cells #[.int .i64 0, .slice Ac (sc 0).length kc] 102) := ⟨_, rfl⟩
 rw [← hw4] at hst4 hbel4 hmk4 ⊢
 clear hw4 hv4
 go_loopg [4, 5] (mu n [(0, sc 0)] ((List.replicate n false).set 0 true)) (fun k u4 u5 wr => ∃ st marked out, mu n st marked = k ∧ Hid (dfs sc st marked out = R) ∧ Hid (DfsOk n st marked out) ∧ Hid (StackAt wr W.heap.size u5.ownBlock u4 st) ∧
  Hid (wr.ownsRow W.heap.size 4 1 (.slice (some ⟨W.heap.size, 0, none⟩) n n) n (marked.map Value.bool)) ∧ Hid (OwnI wr W.heap.size u5 out) ∧ Below W.heap.size W wr)
 case atStart => exact ⟨_, _, _, rfl, hR, hok0, hst4, hmk4, hide OwnI.nil_, hbel4⟩
 case round =>
  clear hst4 hmk4 hbel4 hok0 hR
  obtain ⟨st, marked, out, hmu, hdf, hok, hst, hmk, hou, hbel⟩ := hrel
  have hbs := hbel.size
  replace hmu := hide hmu
  cases st with
  | nil =>
   obtain ⟨cs0, -, hrow0, -⟩ := hst.out
   obtain ⟨A0, C0, rfl⟩ := row_form hrow0
   have hRo : Hid (R = out) := hide (by rw [← hdf.out, dfs_nil])
   have hol : out.length ≤ 2000000 := by have := hok.out.room; omega
   have cR := hide (reverse_any u5 out wr W.heap.size hou.out hol)
   clear hrow0
   go_wp2_with (first | (go_at_call 65; refine cR.out.mono ?_; rintro e w9 ⟨rfl, hO9, hb9⟩))
   have hb10 := hb9.to_below (B' := W.heap.size) (fun k hk => (row_lt hou.out.row hk).1) hbs
   go_ret
   exact ⟨_, rfl, by rw [ho.out, hRo.out]; exact hO9.mono hws, hwW.out.trans ((hbel.trans hb10).mono hws)⟩
  | cons p st =>
   obtain ⟨b, l⟩ := p
   obtain ⟨g, cap, cs, A, C, rfl, hg1, hg2, hcap, hcapm, hcs, hrow, hrest, hrests, r0, r1⟩ := hst.out.top
   obtain ⟨m, hm⟩ : ∃ m, Hid (m = st.length) := ⟨_, hide rfl⟩
   have hmle : m + 1 ≤ n := by have := hok.out.room; rw [hm.out]; simp at this; omega
   rw [← hm.out] at r0 r1 hrow hcap hcs ⊢
   have e1 : ((m + 1 : Nat) : Int) > 0 := by omega
   have e2 : ((m + 1 : Nat) : Int) - 1 = (m : Int) := by omega
   have fz := World.ownsRow.frozenAt hrow (m * 2 + 1)
   replace hrow := hide hrow
   replace hrests := hide hrests
   replace hrest := hide hrest
   replace hcs := hide hcs
   have hbin := (hok.out.inn _ (List.mem_cons_self ..)).1
   have hbI : Hid (I64 b) := hide (i64_mk (by have := hbin.1; simp only at this; omega) (by have := hbin.2; simp only at this; omega))
   clear hbin
   have hol : out.length ≤ 2000000 := by have := hok.out.room; omega
   cases l with
   | nil =>
    have hpop := hide (StackAt.pop (by rw [hcs.out, hm.out]) (by rw [← hm.out]; exact hrow.out) hrests.out)
    have hok2 := hide (dfsOk_pop hok.out)
    have hdf2 : Hid (dfs sc st marked (out ++ [b]) = R) := hide (by rw [← hdf.out, dfs_pop])
    have hmu2 : Hid (mu n st marked < gk) := hide (by rw [← hmu.out]; exact mu_pop _ _ _ _)
    go_wp2_with (first
     | (at_builtin
        refine wpList_append_lies _ rfl (.tmp 36) (.tmp 41) _ rfl W.heap.size 3 i0 _ 1 8 Try.underlying29 hi0.out hz0.out hz1.out hz2.out rfl (by omega) u5 _ _ rfl (hou.out.row.alloc _) ⟨wr.heap.size, 0, none⟩ 1 1 [.int .i64 b] rfl rfl ?c1 ?c2 (by omega) ?c3 ?c4 ?c5 (wr.heap.size + 1) ?c6 ?_
        case c1 => exact World.news_of_block (cs := #[.int .i64 b]) (t := 3) (fr := (0, 0)) (heap_alloc_new wr _)
        case c2 => simp [Value.oneCell']
        case c3 => unfold maxLen; omega
        case c4 => omega
        case c5 => first | (simp; omega) | simp | omega
        case c6 => simp
        intro gq cq w1 hown1 hg1 hgq hlt1
        have hbw1 : Below W.heap.size W w1 := (hbel.alloc hbs _).grown hg1 (by simp; omega) (fun k hk => (row_lt hou.out.row hk).1)
        have hbut := But.grown hou.out.row hg1
        have hL := hide (OwnI.snoc hou.out.ok hbI.out hown1)
        have hM := hide (hbut.row (by decide) hmk.out)
        have hS := hide (stack_out hpop.out hou.out.row hg1 hgq)
        replace hown1 := hide hown1
        replace hg1 := hide hg1
        replace hbut := hide hbut
        replace hgq := hide hgq
        replace hlt1 := hide hlt1))
    have hS2 : Hid (StackAt w1 W.heap.size (some gq) (.slice (some ⟨g, 0, none⟩) m cap) st) := hide (by rw [hm.out]; exact hS.out)
    go_roundg (mu n st marked)
    case measure => exact hmu2.out
    case rel => exact ⟨_, _, _, rfl, hdf2, hok2, hS2, hM, hL, hbw1⟩
   | cons t ts =>
    have htin := (hok.out.inn _ (List.mem_cons_self ..)).2 t (List.mem_cons_self ..)
    obtain ⟨tn, rfl⟩ := Int.eq_ofNat_of_zero_le htin.1
    have htn : tn < n := by have := htin.2; omega
    clear htin
    obtain ⟨bb, off, rfl, -, hC, hCm, r2, htl⟩ := hrest.out.tail
    replace htl := hide htl
    obtain ⟨nt, hnt⟩ : ∃ nt, Hid (nt = ts.length) := ⟨_, hide rfl⟩
    rw [List.length_cons, ← hnt.out] at r1
    rw [← hnt.out] at hC
    have e4 : (((nt + 1 : Nat) : Int) == 0) = false := by rw [beq_eq_false_iff_ne]; omega
    unfold maxLen at hCm
    go_upto_region 14 with (fail)
    obtain ⟨A', hA'⟩ : ∃ A', A' = (if C = 1 then some ⟨bb, off, none⟩ else some ⟨bb, off + 1, none⟩ : Option Addr) := ⟨_, rfl⟩
    rw [← hA']
    have hA2 : Hid (0 < ts.length → A' = some ⟨bb, off + 1, none⟩) := hide (fun h => by rw [hA', if_neg]; have := hnt.out; omega)
    clear hA'
    have hS1 : Hid (StackAt (wr.setCell ⟨g, m * 2 + 1, none⟩ (.slice A' nt (C - 1))) W.heap.size u5.ownBlock (.slice (some ⟨g, 0, none⟩) (m + 1) cap) (((b, ts)) :: st)) := hide (by
     rw [hm.out, hnt.out]
     exact StackAt.shrink (by rw [hcs.out, hm.out]) (by rw [← hm.out]; exact hrow.out) hrests.out (htl.out _ hA2.out))
    have hbut1 := But.stored (j := m * 2 + 1) (u := .slice A' nt (C - 1)) hrow.out
    have hmk1 := hbut1.row (by decide) hmk.out
    have hou1 : Hid (OwnI (wr.setCell ⟨g, m * 2 + 1, none⟩ (.slice A' nt (C - 1))) W.heap.size u5 out) := hide ⟨hbut1.row (by decide) hou.out.row, hou.out.ok⟩
    have hbel1 := hbel.setCell (p := ⟨g, m * 2 + 1, none⟩) hg1 (.slice A' nt (C - 1))
    obtain ⟨w1, hw1⟩ : ∃ w1, w1 = wr.setCell ⟨g, m * 2 + 1, none⟩ (.slice A' nt (C - 1)) := ⟨_, rfl⟩
    rw [← hw1] at hS1 hmk1 hou1 hbel1 ⊢
    clear hw1 hbut1 r0 r1 r2 fz hbel hbs hst hrow hrest hrests htl hA2 hmk hou hcs
    have hml := hok.out.len
    obtain ⟨bt, hbt⟩ := get_ex (l := marked) (k := tn) (by omega)
    have r3 : w1.cell? ⟨W.heap.size, tn, none⟩ = some (.bool bt) := by rw [World.ownsRow.cellAt hmk1 tn (by omega), List.getElem?_map, hbt.out]; rfl
    have fz3 : w1.frozen? ⟨W.heap.size, tn, none⟩ = false := World.ownsRow.frozenAt hmk1 tn
    cases bt with
    | true =>
     have hno : ¬ marked[((tn : Nat) : Int).toNat]? = some false := by rw [Int.toNat_natCast, hbt.out]; decide
     have hok2 := hide (dfsOk_skip hok.out)
     have hdf2 : Hid (dfs sc ((b, ts) :: st) marked out = R) := hide (by rw [← hdf.out, dfs_skip hno])
     have hmu2 : Hid (mu n ((b, ts) :: st) marked < gk) := hide (by rw [← hmu.out]; exact mu_skip _ _ _ _ _ _)
     replace hmk1 := hide hmk1
     clear hno
     go_wp2
     go_roundg (mu n ((b, ts) :: st) marked)
     case measure => exact hmu2.out
     case rel => exact ⟨_, _, _, rfl, hdf2, hok2, hS1, hmk1, hou1, hbel1⟩
    | false =>
     have hyes : marked[((tn : Nat) : Int).toNat]? = some false := by rw [Int.toNat_natCast, hbt.out]
     have hok2 := hide (dfsOk_push hok.out hyes (hsok.out tn).bound)
     have hdf2 : Hid (dfs sc ((((tn : Nat) : Int), sc tn) :: (b, ts) :: st) (marked.set tn true) out = R) := hide (by rw [← hdf.out, dfs_push hyes, Int.toNat_natCast])
     have hmu2 : Hid (mu n ((((tn : Nat) : Int), sc tn) :: (b, ts) :: st) (marked.set tn true) < gk) := hide (by
      rw [← hmu.out]
      have := mu_push (n := n) (b := b) (ts := ts) (l := sc tn) (st := st) hyes (succ_len (hsok.out tn))
      rwa [Int.toNat_natCast] at this)
     rw [Int.toNat_natCast] at hok2
     have hbut2 := But.stored (j := tn) (u := .bool true) hmk1
     have hmk2 := (World.ownsRow.stored hmk1 tn (.bool true)).1
     rw [bmap_set] at hmk2
     have hS2 := hide (hS1.out.but hbut2 (by decide) (by decide))
     have hou2 : Hid (OwnI (w1.setCell ⟨W.heap.size, tn, none⟩ (.bool true)) W.heap.size u5 out) := hide ⟨hbut2.row (by decide) hou1.out.row, hou1.out.ok⟩
     have hbel2 := hbel1.setCell (p := ⟨W.heap.size, tn, none⟩) (Nat.le_refl _) (.bool true)
     have hbs2 := hbel2.size
     have hlen2 : ((b, ts) :: st).length ≤ 2000000 := by rw [List.length_cons, ← hm.out]; omega
     replace hmk1 := hide hmk1
     replace hmk2 := hide hmk2
     clear hyes hbut2
     go_wp2_with (first
      | (go_at_call 64
         refine (cS.out tn _ hbel2).mono ?_
         rintro e w3 ⟨c3, rfl, hO3, hb3⟩
         obtain ⟨A3, k3, hcf⟩ := row_form hO3.row
         subst hcf
         have hbel3 := hbel2.trans (hb3.mono hbs2)
         have hbs3 := hbel3.size
         have hmk3 := hide (row_kept hmk2.out fun k hk => hb3.block k (row_lt hmk2.out hk).2.1)
         have hou3 := hide (hou2.out.kept (w' := w3) fun k _ hk => hb3.block k hk)
         have hS3 := hS2.out.below hb3
         have h03 := RestAt.of_own (no := u5.ownBlock) hO3 (fun k hk e => by have := (row_lt hou2.out.row e).2.1; omega)
         obtain ⟨xs3, hrow3, hpush3⟩ := hS3.push (b := tn) h03
         replace hpush3 := hide hpush3
         replace hrow3 := hide hrow3
         clear hS3 h03)
      | (at_builtin
         refine wpList_append_lies _ rfl (.tmp 70) (.tmp 76) _ rfl W.heap.size 102 j0 _ 2 32 Try.underlying103 hj0.out hy0.out hy1.out hy2.out rfl (by omega) (.slice (some ⟨g, 0, none⟩) (m + 1) cap) _ _ rfl (hrow3.out.alloc _) ⟨w3.heap.size, 0, none⟩ 1 1 [.int .i64 tn, .slice A3 (sc tn).length k3] rfl rfl ?c1 ?c2 (by omega) ?c3 ?c4 ?c5 (w3.heap.size + 1) ?c6 ?_
         case c1 => exact World.news_of_block (cs := #[.int .i64 tn, .slice A3 (sc tn).length k3]) (t := 102) (fr := (0, 0)) (heap_alloc_new w3 _)
         case c2 => simp [Value.oneCell']
         case c3 => unfold maxLen; omega
         case c4 => omega
         case c5 => first | (simp; omega) | simp | omega
         case c6 => simp
         intro gq cq w4 hown4 hg4 hgq hlt4
         have hbw4 : Below W.heap.size W w4 := (hbel3.alloc hbs3 _).grown hg4 (by simp; omega) (fun k hk => (row_lt hrow3.out hk).1)
         have hbut4 := But.grown hrow3.out hg4
         have hS4 := hide (hpush3.out w4 _ hown4 hbut4)
         have hM4 := hide (hbut4.row (by decide) hmk3.out)
         have hL4 : Hid (OwnI w4 W.heap.size u5 out) := hide ⟨hbut4.row (by decide) hou3.out.row, hou3.out.ok⟩
         replace hown4 := hide hown4
         replace hg4 := hide hg4
         replace hbut4 := hide hbut4
         replace hgq := hide hgq
         replace hlt4 := hide hlt4))
     go_roundg (mu n ((((tn : Nat) : Int), sc tn) :: (b, ts) :: st) (marked.set tn true))
     case measure => exact hmu2.out
     case rel => exact ⟨_, _, _, rfl, hdf2, hok2, hS4, hM4, hL4, hbw4⟩
end Go.Proofs.Ytamjcafjdioidaa
namespace Go.Proofs.Ytamjcafjdioidaa
open Go.RowKit
set_option linter.unusedSimpArgs false
set_option linter.unusedVariables false
theorem OwnB.cell {w : World} {B g n c : Nat} {l : List Bool} (h : w.ownsRow B 4 1 (.slice (some ⟨g, 0, none⟩) n c) n (l.map Value.bool)) {k : Nat} {b : Bool} (hk : l[k]? = some b) (hn : k < n) : w.cell? ⟨g, k, none⟩ = some (.bool b) := by
 rw [World.ownsRow.cellAt h k (by omega), List.getElem?_map, hk]; rfl
def ReachPost (n : Nat) (l : List Bool) (w : World) (e : Ending) (w' : World) : Prop := ∃ g, e = .returned (.slice (some ⟨g, 0, none⟩) n n) ∧ w'.ownsRow w.heap.size 4 1 (.slice (some ⟨g, 0, none⟩) n n) n (l.map Value.bool) ∧ Below w.heap.size w w'
set_option maxRecDepth 100000 in
set_option maxHeartbeats 6400000 in
theorem reach_any (f : Fun) (c1 c2 : Value) (w : World) (B : Nat) (hB : B ≤ w.heap.size) (hf : RFun.rep w B [.string f.name, c1, .int .i64 f.ret, c2] f) (hs : Small f) :
  Calls Try.prog 22 #[f.v c1 c2] w (ReachPost f.blocks.length (reachF f.blocks) w) := by
 obtain ⟨hp, hb⟩ := fun_open (RFun.later hf (Below.refl _ _) hB)
 obtain ⟨A1, k1, h1, -, -⟩ := Rp.slice1_open hp
 obtain ⟨A2, k2, h2, hm2, -⟩ := Rp.slice1_open hb
 cases h1; cases h2
 clear hp hb
 obtain ⟨b0, hb0, hx0, hx1, hx2⟩ := cinfo_parts cinfo_bool
 replace hb0 := hide hb0
 replace hx0 := hide hx0
 replace hx1 := hide hx1
 replace hx2 := hide hx2
 obtain ⟨n, hn⟩ : ∃ n, Hid (n = f.blocks.length) := ⟨_, hide rfl⟩
 have hnle : n ≤ 2000000 := by rw [hn.out]; exact hs.blocks
 have hrl := reach_len f.blocks
 obtain ⟨O, hO⟩ : ∃ O, Hid (O = orderF f.blocks) := ⟨_, hide rfl⟩
 have hRe : Hid (reachF f.blocks = O.foldl (fun l b => l.set b.toNat true) (List.replicate n false)) := hide (by rw [hn.out, hO.out]; rfl)
 have hol : O.length ≤ n := by rw [hO.out, hn.out]; exact order_len _
 have hob : Hid (∀ x, x ∈ O → 0 ≤ x ∧ x < n) := hide (by rw [hO.out, hn.out]; exact (order_ok _).bound)
 clear hrl
 rw [← hn.out] at hf hm2 ⊢
 obtain ⟨W, hW, hwW, hWs, hx⟩ := boxes1 w #[.string f.name, .slice A1 f.params.length k1, .int .i64 f.ret, .slice A2 n k2] 32
 have q0 : ∀ w', Below W.heap.size W w' → w'.cell? ⟨w.heap.size, 0, none⟩ = some (.string f.name) := hx 0 _ rfl
 have q1 : ∀ w', Below W.heap.size W w' → w'.cell? ⟨w.heap.size, 1, none⟩ = some (.slice A1 f.params.length k1) := hx 1 _ rfl
 have q2 : ∀ w', Below W.heap.size W w' → w'.cell? ⟨w.heap.size, 2, none⟩ = some (.int .i64 f.ret) := hx 2 _ rfl
 have q3 : ∀ w', Below W.heap.size W w' → w'.cell? ⟨w.heap.size, 3, none⟩ = some (.slice A2 n k2) := hx 3 _ rfl
 clear hx
 have hws : w.heap.size ≤ W.heap.size := by omega
 replace hWs := hide hWs
 have hself := Below.refl W.heap.size W
 have cO : Hid (∀ w', Below W.heap.size W w' → Calls Try.prog 43 #[f.v (.slice A1 f.params.length k1) (.slice A2 n k2)] w' (OrdPost O w')) := hide (fun w' h => by
  have hh := hwW.trans (h.mono hws)
  have := order_any f (.slice A1 f.params.length k1) (.slice A2 n k2) w' w'.heap.size (Nat.le_refl _) (RFun.later hf (hh.mono hB) (Nat.le_trans hB hh.size)) hs
  rwa [← hO.out] at this)
 replace hs := hide hs
 replace hf := hide hf
 replace hwW := hide hwW
 go_enter Try.func22, Try.ntmps22
 go_wp2_with (at_make; refine wpList_make_full _ rfl (.tmp 8) (.tmp 8) _ rfl W.heap.size 4 b0 _ 1 Try.underlying53 hb0.out hx0.out hx1.out .i64 .i64 n n n rfl rfl rfl rfl ?c1 ?c2 (Nat.le_refl _) ?_)
 case c1 => rw [hx2.out]; omega
 case c2 => unfold maxLen; omega
 intro w1 hown1 hg1
 have hbel1 := below_grown0 hg1
 have hmk1 := hide (made_bools hown1)
 have hs1 := hbel1.size
 clear hg1 hown1
 go_wp2_with (first | (go_at_call 43; refine (cO.out _ hbel1).mono ?_; rintro e w3 ⟨c, rfl, hO3, hb3⟩; obtain ⟨Ac, kc, hcf⟩ := row_form hO3.row; subst hcf))
 have hbel3 := hbel1.trans (hb3.mono hs1)
 have hmk3 := hide (row_kept hmk1.out fun k hk => hb3.block k (row_lt hmk1.out hk).2.1)
 have hO3' := hide hO3
 clear hbel1 hb3 hmk1 hs1 hO3
 go_loopw [13] (fun j wr => ∃ m : Nat, j = .int .i64 m ∧ m ≤ O.length ∧ Hid (wr.ownsRow W.heap.size 4 1 (.slice (some ⟨W.heap.size, 0, none⟩) n n) n (((O.take m).foldl (fun l b => l.set b.toNat true) (List.replicate n false)).map Value.bool)) ∧ Hid (OwnI wr w1.heap.size (.slice Ac O.length kc) O) ∧ Below W.heap.size W wr) (fun i _ => O.length - (intOf i).toNat)
 case atStart => exact ⟨0, rfl, Nat.zero_le _, by rw [List.take_zero]; exact hmk3, hO3', hbel3⟩
 case round =>
  clear hmk3 hO3' hbel3
  obtain ⟨m, rfl, hm, hmk, hou, hbel⟩ := hrel
  by_cases hlt : m < O.length
  ·obtain ⟨x, hx⟩ := get_ex (l := O) (k := m) hlt
   obtain ⟨xn, rfl⟩ := Int.eq_ofNat_of_zero_le (hob.out x (List.mem_of_getElem? hx.out)).1
   have hxn : xn < n := by have := (hob.out _ (List.mem_of_getElem? hx.out)).2; omega
   obtain ⟨g, rfl⟩ : ∃ g, Ac = some ⟨g, 0, none⟩ := by
    rcases hou.out.row.2 with ⟨h1, h2⟩ | ⟨gp, cp, cur, h1, h2, _⟩
    ·omega
    ·cases h1; exact ⟨gp, rfl⟩
   have r0 : wr.cell? ⟨g, m, none⟩ = some (.int .i64 xn) := by rw [World.ownsRow.cellAt hou.out.row m (by omega), List.getElem?_map, hx.out]; rfl
   have hml : ((O.take m).foldl (fun l b => l.set b.toNat true) (List.replicate n false)).length = n := by rw [setAll_len []]; simp
   obtain ⟨b, hb⟩ := get_ex (l := (O.take m).foldl (fun l b => l.set b.toNat true) (List.replicate n false)) (k := xn) (by omega)
   have r1 : wr.cell? ⟨W.heap.size, xn, none⟩ = some (.bool b) := OwnB.cell hmk.out hb.out hxn
   have f1 : wr.frozen? ⟨W.heap.size, xn, none⟩ = false := World.ownsRow.frozenAt hmk.out xn
   have st := (World.ownsRow.stored hmk.out xn (.bool true)).1
   rw [bmap_set] at st
   have hst : Hid (((O.take m).foldl (fun l b => l.set b.toNat true) (List.replicate n false)).set xn true = (O.take (m + 1)).foldl (fun l b => l.set b.toNat true) (List.replicate n false)) := hide (by
    rw [List.take_add_one, hx.out]; simp)
   rw [hst.out] at st
   replace st := hide st
   have hbut := But.stored (j := xn) (u := .bool true) hmk.out
   have hou2 := hide (show OwnI _ _ _ _ from ⟨hbut.row (by decide) hou.out.row, hou.out.ok⟩)
   have hb9 := hide (hbel.setCell (p := ⟨W.heap.size, xn, none⟩) (Nat.le_refl _) (.bool true))
   have hmi : (m : Int) < (O.length : Int) := by omega
   replace hbut := hide hbut
   replace hml := hide hml
   go_wp2
   go_roundw
   case rel => exact ⟨m + 1, by go_num, hlt, st, hou2, hb9.out⟩
   case measure => simp [intOf]; omega
  ·obtain rfl : m = O.length := by omega
   have hmk9 := hmk.out
   rw [List.take_length, ← hRe.out] at hmk9
   replace hmk9 := hide hmk9
   go_wp2
   go_ret
   exact ⟨W.heap.size, rfl, row_mono hmk9.out hws, hwW.out.trans (hbel.mono hws)⟩
end Go.Proofs.Ytamjcafjdioidaa
