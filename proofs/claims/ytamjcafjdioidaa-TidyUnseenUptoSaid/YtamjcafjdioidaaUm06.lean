/- Texts of the chain, without what is not wanted: IrX, Hm. No condition but sizes. -/
import Derived.WalkKit
import Derived.Deep.Slices
import Derived.Deep.Draws
import Derived.ChangeSame
import Derived.ChangeOld
import Derived.OwnWalk
import Derived.Laws.OwnMore
import Derived.Deep.AppendLies
import Derived.Test.YtamjcafjdioidaaRows
import Derived.ProofKit
import Derived.OpenShut
import Derived.JoinedCond
import Derived.WalkSpells
import Derived.WalkLawsBesides
import Derived.Deep.RegionHeld3
import Derived.Deep.LoopGhost
import Derived.Deep.QuietTactic
import Derived.BigQuiet
import Derived.Deep.DeepCutAuto
import Derived.Deep.CutBlock
import Derived.StillTailTactics
import Derived.Test.YtamjcafjdioidaaUm01
import Derived.Test.YtamjcafjdioidaaUm02
import Derived.Test.YtamjcafjdioidaaUm03
import Derived.Test.YtamjcafjdioidaaUm05
namespace Go.Proofs.Ytamjcafjdioidaa
open Go.RowKit
set_option linter.unusedSimpArgs false
set_option linter.unusedVariables false
theorem cinfo_int : (Try.prog.info? 3).map (fun i => (i.zero, i.size, i.bytes)) = some (some (.int .i64 0), 1, 8) := by kernel_rfl
theorem cinfo_Value : (Try.prog.info? 42).map (fun i => (i.zero, i.size, i.bytes)) = some (some (.agg #[.int .i64 0, .int .i64 0, .int .u64 0]), 3, 24) := by kernel_rfl
theorem cinfo_Instr : (Try.prog.info? 39).map (fun i => (i.zero, i.size, i.bytes)) = some (some (.agg #[.int .i64 0, .int .i64 0, .int .i64 0, .int .i64 0, .int .i64 0, .slice none 0 0, .slice none 0 0]), 7, 88) := by kernel_rfl
theorem cinfo_Block : (Try.prog.info? 36).map (fun i => (i.zero, i.size, i.bytes)) = some (some (.agg #[.slice none 0 0]), 1, 24) := by kernel_rfl
theorem cinfo_parts {P : Program} {t : TypeId} {z : Option Value} {s b : Nat} (h : (P.info? t).map (fun i => (i.zero, i.size, i.bytes)) = some (z, s, b)) : ∃ i, P.info? t = some i ∧ i.zero = z ∧ i.size = s ∧ i.bytes = b := by
 cases hi : P.info? t with
 | none => rw [hi] at h; cases h
 | some i => rw [hi] at h; cases h; exact ⟨i, rfl, rfl, rfl, rfl⟩
theorem ints_one (l : List Int) : ∀ v ∈ l.map (fun z => Value.int .i64 z), v.oneCell' = true := by
 intro v hv
 obtain ⟨z, -, rfl⟩ := List.mem_map.1 hv
 rfl
theorem oc_one (p : List Opd) : ∀ v ∈ p.flatMap oc, v.oneCell' = true := by
 intro v hv
 obtain ⟨b, -, hb⟩ := List.mem_flatMap.1 hv
 simp only [oc, List.mem_cons, List.not_mem_nil, or_false] at hb
 rcases hb with rfl | rfl | rfl <;> rfl
theorem ints_src {w : World} {A : Option Addr} {n c : Nat} {l : List Int} (h : RInts.rep w w.heap.size [.slice A n c] l) : n = l.length ∧ (A = none → l.length = 0) ∧ (∀ x, x ∈ l → I64 x) ∧ ∀ W, Below w.heap.size w W → ∀ ad, A = some ad → ∀ j u, (l.map fun z => Value.int .i64 z)[j]? = some u → W.cell? (ad.add j) = some u := by
 obtain ⟨A', cap', h1, h2, h3⟩ := Rp.slice1_open h
 cases h1
 refine ⟨rfl, fun e => ?_, fun x hx => ?_, fun W hW ad had j u hu => ?_⟩
 ·rcases Nat.eq_zero_or_pos l.length with h | h
  ·exact h
  ·obtain ⟨b, off, h4, -⟩ := h3 h; rw [e] at h4; cases h4
 ·obtain ⟨i, hi⟩ := List.mem_iff_getElem?.1 hx
  obtain ⟨b, off, h4, h5⟩ := h3 (by have := (List.getElem?_eq_some_iff.1 hi).1; omega)
  obtain ⟨cc, ⟨-, h6⟩, -⟩ := h5 i x hi
  exact h6
 ·rw [List.getElem?_map] at hu
  cases hz : l[j]? with
  | none => rw [hz] at hu; cases hu
  | some z =>
   rw [hz] at hu
   cases hu
   obtain ⟨b, off, h4, h5⟩ := h3 (by have := (List.getElem?_eq_some_iff.1 hz).1; omega)
   rw [h4] at had
   cases had
   obtain ⟨cc, ⟨h6, -⟩, h7⟩ := h5 j z hz
   cases h6
   rw [show (⟨b, off, none⟩ : Addr).add j = ⟨b, off + j, none⟩ from add_mk b off j]
   exact h7 W hW
theorem opds_src {w : World} {A : Option Addr} {n c : Nat} {l : List Opd} (h : ROpds.rep w w.heap.size [.slice A n c] l) : n = l.length ∧ (A = none → l.length = 0) ∧ (∀ x, x ∈ l → I64 x.kind ∧ I64 x.num) ∧ ∀ W, Below w.heap.size w W → ∀ ad, A = some ad → ∀ j u, (l.flatMap oc)[j]? = some u → W.cell? (ad.add j) = some u := by
 obtain ⟨A', cap', h1, h2, h3⟩ := Rp.slice_open h
 cases h1
 refine ⟨rfl, fun e => ?_, fun x hx => ?_, fun W hW ad had j u hu => ?_⟩
 ·rcases Nat.eq_zero_or_pos l.length with h | h
  ·exact h
  ·obtain ⟨b, off, h4, -⟩ := h3 h; rw [e] at h4; cases h4
 ·obtain ⟨i, hi⟩ := List.mem_iff_getElem?.1 hx
  obtain ⟨b, off, h4, h5⟩ := h3 (by have := (List.getElem?_eq_some_iff.1 hi).1; omega)
  obtain ⟨es, -, ⟨-, h6⟩, -⟩ := h5 i x hi
  exact h6
 ·rw [oc_get] at hu
  cases hz : l[j / 3]? with
  | none => rw [hz] at hu; cases hu
  | some z =>
   rw [hz] at hu
   obtain ⟨b, off, h4, h5⟩ := h3 (by have := (List.getElem?_eq_some_iff.1 hz).1; omega)
   rw [h4] at had
   cases had
   obtain ⟨es, -, ⟨h6, -⟩, h7⟩ := h5 (j / 3) z hz
   subst h6
   rw [show (⟨b, off, none⟩ : Addr).add j = ⟨b, off + j, none⟩ from add_mk b off j, show off + j = off + j / 3 * 3 + j % 3 by omega]
   exact h7 (j % 3) u hu W hW
theorem box4 {w : World} {N : Nat} {a b c d : Value} {t : TypeId} (h : w.heap[N]? = some (.cells #[a, b, c, d] t (0, 0))) : w.cell? ⟨N, 0, none⟩ = some a ∧ w.cell? ⟨N, 1, none⟩ = some b ∧ w.cell? ⟨N, 2, none⟩ = some c ∧ w.cell? ⟨N, 3, none⟩ = some d := by simp [World.cell?, h]
theorem box7 {w : World} {N : Nat} {a b c d e f g : Value} {t : TypeId} (h : w.heap[N]? = some (.cells #[a, b, c, d, e, f, g] t (0, 0))) : w.cell? ⟨N, 0, none⟩ = some a ∧ w.cell? ⟨N, 1, none⟩ = some b ∧ w.cell? ⟨N, 2, none⟩ = some c ∧ w.cell? ⟨N, 3, none⟩ = some d ∧ w.cell? ⟨N, 4, none⟩ = some e ∧ w.cell? ⟨N, 5, none⟩ = some f ∧ w.cell? ⟨N, 6, none⟩ = some g := by simp [World.cell?, h]
structure Small (f : Fun) : Prop where
 params : f.params.length ≤ 2000000
 blocks : f.blocks.length ≤ 2000000
 code : ∀ x, x ∈ f.blocks → x.length ≤ 2000000 ∧ ∀ i, i ∈ x → i.args.length ≤ 2000000 ∧ i.to.length ≤ 2000000
end Go.Proofs.Ytamjcafjdioidaa

namespace Go.Proofs.Ytamjcafjdioidaa
open Go.RowKit
def RVr : Rp Vr := .plain (fun x => [.string x.name, .int .i64 x.size]) fun x => I64 x.size ∧ x.name.size ≤ maxLen
def RExt : Rp Ext where
 rep w B cs x := ∃ c, cs = [.string x.name, c, .int .i64 x.ret] ∧ RInts.rep w B [c] x.params ∧ I64 x.ret ∧ x.name.size ≤ maxLen
 keep := by
  rintro w w' B B' cs x ⟨c, h, h1, h2⟩ hk hB
  exact ⟨c, h, RInts.keep h1 hk hB, h2⟩
def RVrs : Rp (List Vr) := .slice 2 RVr
def RExts : Rp (List Ext) := .slice 3 RExt
def RFuns : Rp (List Fun) := .slice 4 RFun
def SomeBit (w : World) (e : Ending) (w' : World) : Prop := ∃ b : Bool, e = .returned (.bool b) ∧ Below w.heap.size w w'
set_option maxHeartbeats 1600000 in
theorem few_any (vs : List Vr) (xs : List Ext) (fs : List Fun) (most : Int) (c d e : Value) (w : World) (B : Nat) (hB : B ≤ w.heap.size) (hv : RVrs.rep w B [c] vs) (hx : RExts.rep w B [d] xs) (hf : RFuns.rep w B [e] fs) :
  Calls Try.prog 24 #[.agg #[c, d, e], .int .i64 most] w (SomeBit w) := by
 obtain ⟨A1, k1, h1, hm1, -⟩ := Rp.slice_open hv
 obtain ⟨A2, k2, h2, hm2, gx⟩ := Rp.slice_open (RExts.later hx (Below.refl _ _) hB)
 obtain ⟨A3, k3, h3, hm3, gf⟩ := Rp.slice_open (RFuns.later hf (Below.refl _ _) hB)
 cases h1; cases h2; cases h3
 replace gx := hide gx
 replace gf := hide gf
 clear hv hx hf
 obtain ⟨W, hW, hwW, hWs, hbx⟩ := boxes1 w #[.slice A1 vs.length k1, .slice A2 xs.length k2, .slice A3 fs.length k3] 26
 have x0 := hbx 0 _ rfl
 have x1 := hbx 1 _ rfl
 have x2 := hbx 2 _ rfl
 clear hbx
 have hsz : w.heap.size ≤ W.heap.size := by omega
 replace hWs := hide hWs
 have hself := Below.refl W.heap.size W
 go_enter Try.func24, Try.ntmps24
 go_wp2
 clear hW
 go_loopw [5, 28] (fun n i wr => ∃ (k : Nat) (m : Int), k ≤ xs.length ∧ i = .int .i64 k ∧ n = .int .i64 m ∧ Below W.heap.size W wr) (fun _ i _ => xs.length - (intOf i).toNat)
 case atStart => exact ⟨0, _, Nat.zero_le _, rfl, rfl, Below.refl _ _⟩
 case round =>
  obtain ⟨k, m, hk, rfl, rfl, hbel⟩ := hrel
  by_cases hlt : k < xs.length
  ·obtain ⟨b1, o1, rfl, he1⟩ := gx.out (by omega)
   obtain ⟨x, hx⟩ := get_ex hlt
   obtain ⟨_, _, ⟨c1, rfl, hr1, -⟩, hc1⟩ := he1 k x hx.out
   obtain ⟨p0, p1, p2⟩ := (hc1.later hwW hsz).three
   obtain ⟨A4, k4, h4, hm4, -⟩ := Rp.slice1_open hr1
   cases h4
   clear he1 hr1 hc1
   go_wp2
   go_roundw
   case rel => exact ⟨k + 1, _, hlt, by go_num, rfl, hbel.alloc hbel.size _⟩
   case measure => simp [intOf]; omega
  ·go_wp2
   go_loopw [5, 41] (fun n i wr => ∃ (k : Nat) (m : Int), k ≤ fs.length ∧ i = .int .i64 k ∧ n = .int .i64 m ∧ Below W.heap.size W wr) (fun _ i _ => fs.length - (intOf i).toNat)
   case atStart => exact ⟨0, _, Nat.zero_le _, rfl, rfl, hbel⟩
   case round =>
    clear hbel
    obtain ⟨k, m, hk, rfl, rfl, hbel⟩ := hrel
    by_cases hlt2 : k < fs.length
    ·obtain ⟨b1, o1, rfl, he1⟩ := gf.out (by omega)
     obtain ⟨f, hfk⟩ := get_ex hlt2
     obtain ⟨_, _, ⟨c1, c2, rfl, hr1, hr2, -⟩, hc1⟩ := he1 k f hfk.out
     obtain ⟨p0, p1, p2, p3⟩ := (hc1.later hwW hsz).four
     obtain ⟨A4, k4, h4, hm4, -⟩ := Rp.slice1_open hr1
     obtain ⟨A5, k5, h5, hm5, gb⟩ := Rp.slice1_open hr2
     cases h4; cases h5
     replace gb := hide gb
     clear he1 hr1 hr2 hc1
     have hbel2 : Below W.heap.size W (wr.alloc (.cells #[.string f.name, .slice A4 f.params.length k4, .int .i64 f.ret, .slice A5 f.blocks.length k5] 32)) := hbel.alloc hbel.size _
     go_wp2
     go_loopw [5, 57] (fun n i wr => ∃ (k : Nat) (m : Int), k ≤ f.blocks.length ∧ i = .int .i64 k ∧ n = .int .i64 m ∧ Below W.heap.size W wr) (fun _ i _ => f.blocks.length - (intOf i).toNat)
     case atStart => exact ⟨0, _, Nat.zero_le _, rfl, rfl, hbel2⟩
     case round =>
      clear hbel hbel2
      obtain ⟨j, m3, hj, rfl, rfl, hbel⟩ := hrel
      by_cases hlt3 : j < f.blocks.length
      ·obtain ⟨b2, o2, rfl, he2⟩ := gb.out (by omega)
       obtain ⟨bl, hbl⟩ := get_ex hlt3
       obtain ⟨d1, hr3, hd1⟩ := he2 j bl hbl.out
       obtain ⟨A6, k6, h6, hm6, gi⟩ := Rp.slice_open hr3
       cases h6
       replace gi := hide gi
       have hd1' : ∀ w', Below W.heap.size W w' → w'.cell? ⟨b2, o2 + j, none⟩ = some (.slice A6 bl.length k6) := fun w' h => hd1 w' (hwW.trans (h.mono hsz))
       clear he2 hr3 hd1
       have hbel2 : Below W.heap.size W (wr.alloc (.cells #[.slice A6 bl.length k6] 36)) := hbel.alloc hbel.size _
       go_wp2
       go_loopw [5, 69] (fun n i wr => ∃ (k : Nat) (m : Int), k ≤ bl.length ∧ i = .int .i64 k ∧ n = .int .i64 m ∧ Below W.heap.size W wr) (fun _ i _ => bl.length - (intOf i).toNat)
       case atStart => exact ⟨0, _, Nat.zero_le _, rfl, rfl, hbel2⟩
       case round =>
        clear hbel hbel2
        obtain ⟨r, m4, hr, rfl, rfl, hbel⟩ := hrel
        by_cases hlt4 : r < bl.length
        ·obtain ⟨b4, o4, rfl, he4⟩ := gi.out (by omega)
         obtain ⟨ins, hins⟩ := get_ex hlt4
         obtain ⟨_, _, ⟨c4, c5, rfl, ha, hto, -⟩, hc4⟩ := he4 r ins hins.out
         obtain ⟨q0, q1, q2, q3, q4, q5, q6⟩ := (hc4.later hwW hsz).seven
         obtain ⟨A7, k7, h7, hm7, -⟩ := Rp.slice_open ha
         obtain ⟨A8, k8, h8, hm8, -⟩ := Rp.slice1_open hto
         cases h7; cases h8
         clear he4 ha hto hc4
         have hbel2 : Below W.heap.size W (wr.alloc (.cells #[.int .i64 ins.op, .int .i64 ins.reg, .int .i64 ins.ty, .int .i64 ins.num, .int .i64 ins.flags, .slice A7 ins.args.length k7, .slice A8 ins.to.length k8] 39)) := hbel.alloc hbel.size _
         go_wp2
         ·go_ret
          exact ⟨_, rfl, hwW.trans (hbel2.mono hsz)⟩
         ·go_roundw
          case rel => exact ⟨r + 1, _, hlt4, by go_num, rfl, hbel2⟩
          case measure => simp [intOf]; omega
        ·go_wp2
         go_roundw
         case rel => exact ⟨j + 1, _, hlt3, by go_num, rfl, hbel⟩
         case measure => simp [intOf]; omega
      ·go_wp2
       go_roundw
       case rel => exact ⟨k + 1, _, hlt2, by go_num, rfl, hbel⟩
       case measure => simp [intOf]; omega
    ·go_wp2
     go_ret
     exact ⟨_, rfl, hwW.trans (hbel.mono hsz)⟩
end Go.Proofs.Ytamjcafjdioidaa
namespace Go.Proofs.Ytamjcafjdioidaa
open Go Go.RowKit
theorem still_of_quiet {P : Program} {o : Oper} {a : Act} {w : World} {K : Act → Prop} (h : o.quiet P a (fun w' => w' = w) K) : o.still P a w K := by
 obtain ⟨v, h1, h2⟩ := h
 have h3 := h1 w rfl
 unfold Oper.quietAt at h3
 unfold Oper.still
 generalize (execOp a.eval o).run P w = r at *
 cases r with
 | ok n w' =>
  cases n <;> simp only [Oper.quietUpon] at h3 <;> simp only [Oper.stillUpon]
  case value u => obtain ⟨e1, e2⟩ := h3; subst e2; exact ⟨e1, h2⟩
  case skip => obtain ⟨e1, e2⟩ := h3; subst e2; exact ⟨e1, h2⟩
  case enter f args => exact ⟨h3.1, v, h3.2, h2⟩
 | halt x w' => simp only [Oper.quietUpon] at h3
theorem wpStill_of_quiet {P : Program} {ops : Array Oper} {w : World} {Q : Act → Prop} : ∀ {rest : List Oper} {a : Act}, wpQuiet P ops (fun w' => w' = w) Q rest a → wpStill P ops w Q rest a
 | [], _, h => h
 | o :: rest, a, h => by
  unfold wpQuiet at h
  unfold wpStill
  split
  ·rename_i hw
   rw [if_pos hw] at h
   exact Oper.still_mono (fun a h => wpStill_of_quiet h) (still_of_quiet h)
  ·rename_i hw
   rw [if_neg hw] at h
   exact wpStill_of_quiet h
theorem region_below {P : Program} {id : Nat} {Q : Exit → Act → World → Prop} {a : Act} {w W : World} {B : Nat} {l : List Oper} (hm : P.follows .mixedOrders = true) (hB : Region.lexB .any l.toArray = true) (hC : Below B W w)
  (h : wpQuiet P l.toArray (fun w' => Below B W w') (fun a' => ∀ w', Below B W w' → Q .normal a' w') l a) : (Code.region id l.toArray true).wp P Q a w :=
 wp_region_quiet (C := fun w' => Below B W w') hm hB ⟨hC.os, hC.tape, hC.output, hC.size, hC.block⟩ (by simpa using h)
theorem ret_class {P : Program} {k : Nat} {args : Array Value} {v : Value} {W w9 : World} (c : Calls P k args w9 fun e w' => e = .returned v ∧ Below w9.heap.size w9 w') (h : Below W.heap.size W w9) :
  Calls P k args w9 fun e w'' => e = .returned v ∧ Below W.heap.size W w'' := c.mono fun _ _ h' => ⟨h'.1, h.trans (h'.2.mono h.size)⟩
end Go.Proofs.Ytamjcafjdioidaa
namespace Go.Proofs.Ytamjcafjdioidaa
open Go.RowKit
set_option linter.unusedVariables false
section
variable {w w' : World} {B : Nat}
theorem But.stored {T : TypeId} {size n cap g j : Nat} {xs : List Value} {u : Value} (h : w.ownsRow B T size (.slice (some ⟨g, 0, none⟩) n cap) n xs) : But T w (w.setCell ⟨g, j, none⟩ u) := fun k c t f hk ht =>
 Below.heap_setCell _ _ _ _ (fun e => by
  obtain ⟨-, -, c', h1⟩ := row_lt h (k := g) rfl
  have e' : k = g := e
  subst e'
  rw [hk] at h1
  injection h1 with h1
  injection h1 with _ h2
  exact ht h2)
end
theorem box_at {w : World} {N : Nat} (o : Obj) (h : N = w.heap.size) : (w.alloc o).heap[N]? = some o := by subst h; exact box_top _ _
theorem bk (w : World) (o : Obj) : Below w.heap.size w (w.alloc o) := (Below.refl _ _).alloc (Nat.le_refl _) o
theorem cellsOf_at {l : List Ins} {es : List (Value × Value)} {k r : Nat} {x : Ins} {c d u : Value} (hx : l[k]? = some x) (he : es[k]? = some (c, d)) (hu : (insC x c d)[r]? = some u) : (cellsOf l es)[k * 7 + r]? = some u := by
 unfold cellsOf
 refine flatten_at (n := 7) (es := insC x c d) (fun y hy => ?_) ?_ hu
 ·obtain ⟨i, hi⟩ := List.getElem?_of_mem hy
  rw [List.getElem?_zipWith] at hi
  split at hi
  ·cases hi; rfl
  ·cases hi
 ·rw [List.getElem?_zipWith, hx, he]
def setBlocks (f : Fun) (bs : List (List Ins)) : Fun := ⟨f.name, f.params, f.ret, bs⟩
end Go.Proofs.Ytamjcafjdioidaa
