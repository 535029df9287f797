/- lathelaw02.Few answers some bool. No condition. | A region whose head only reads and whose tail stands in one order: its head by the cheap step of quiet walks. No condition. | Small helpers that many texts share. No condition. -/
import Derived.Test.YtamjcafjdioidaaIrO
import Derived.Test.YtamjcafjdioidaaApn
import Derived.StillTailTactics
import Derived.BigQuiet
import Derived.Test.YtamjcafjdioidaaIrX
import Derived.Test.YtamjcafjdioidaaCq
namespace Go.Proofs.Ytamjcafjdioidaa
open Go.RowKit

def RVr : Rp Vr := .plain (fun x => [.string x.name, .int .i64 x.size]) fun x => I64 x.size ∧ x.name.size ≤ maxLen
def RExt : Rp Ext where
  rep w B cs x := ∃ c, cs = [.string x.name, c, .int .i64 x.ret] ∧ RInts.rep w B [c] x.params ∧ I64 x.ret ∧ x.name.size ≤ maxLen
  keep := by
    rintro w w' B B' cs x ⟨c, h, h1, h2⟩ hk hB
    exact ⟨c, h, RInts.keep h1 hk hB, h2⟩
def RVrs : Rp (List Vr) := .slice 2 RVr
def RExts : Rp (List Ext) := .slice 3 RExt
def RFuns : Rp (List Fun) := .slice 4 RFun

/-- it answers some bool, and makes memory alone -/
def SomeBit (w : World) (e : Ending) (w' : World) : Prop := ∃ b : Bool, e = .returned (.bool b) ∧ Below w.heap.size w w'

set_option maxHeartbeats 1600000 in
theorem few_any (vs : List Vr) (xs : List Ext) (fs : List Fun) (most : Int) (c d e : Value) (w : World) (B : Nat) (hB : B ≤ w.heap.size) (hv : RVrs.rep w B [c] vs) (hx : RExts.rep w B [d] xs) (hf : RFuns.rep w B [e] fs) :
    Calls Try.prog 24 #[.agg #[c, d, e], .int .i64 most] w (SomeBit w) := by
  obtain ⟨A1, k1, h1, hm1, -⟩ := Rp.slice_open hv
  obtain ⟨A2, k2, h2, hm2, gx⟩ := Rp.slice_open (RExts.later hx (Below.refl _ _) hB)
  obtain ⟨A3, k3, h3, hm3, gf⟩ := Rp.slice_open (RFuns.later hf (Below.refl _ _) hB)
  cases h1; cases h2; cases h3
  replace gx := hide gx
  replace gf := hide gf
  clear hv hx hf
  obtain ⟨W, hW, hwW, hWs, hbx⟩ := boxes1 w #[.slice A1 vs.length k1, .slice A2 xs.length k2, .slice A3 fs.length k3] 26
  have x0 := hbx 0 _ rfl
  have x1 := hbx 1 _ rfl
  have x2 := hbx 2 _ rfl
  clear hbx
  have hsz : w.heap.size ≤ W.heap.size := by omega
  replace hWs := hide hWs
  have hself := Below.refl W.heap.size W
  go_enter Try.func24, Try.ntmps24
  go_wp2
  clear hW
  go_loopw [5, 28] (fun n i wr => ∃ (k : Nat) (m : Int), k ≤ xs.length ∧ i = .int .i64 k ∧ n = .int .i64 m ∧ Below W.heap.size W wr) (fun _ i _ => xs.length - (intOf i).toNat)
  case atStart => exact ⟨0, _, Nat.zero_le _, rfl, rfl, Below.refl _ _⟩
  case round =>
    obtain ⟨k, m, hk, rfl, rfl, hbel⟩ := hrel
    by_cases hlt : k < xs.length
    · obtain ⟨b1, o1, rfl, he1⟩ := gx.out (by omega)
      obtain ⟨x, hx⟩ := get_ex hlt
      obtain ⟨_, _, ⟨c1, rfl, hr1, -⟩, hc1⟩ := he1 k x hx.out
      obtain ⟨p0, p1, p2⟩ := (hc1.later hwW hsz).three
      obtain ⟨A4, k4, h4, hm4, -⟩ := Rp.slice1_open hr1
      cases h4
      clear he1 hr1 hc1
      go_wp2
      go_roundw
      case rel => exact ⟨k + 1, _, hlt, by go_num, rfl, hbel.alloc hbel.size _⟩
      case measure => simp [intOf]; omega
    · go_wp2
      go_loopw [5, 41] (fun n i wr => ∃ (k : Nat) (m : Int), k ≤ fs.length ∧ i = .int .i64 k ∧ n = .int .i64 m ∧ Below W.heap.size W wr) (fun _ i _ => fs.length - (intOf i).toNat)
      case atStart => exact ⟨0, _, Nat.zero_le _, rfl, rfl, hbel⟩
      case round =>
        clear hbel
        obtain ⟨k, m, hk, rfl, rfl, hbel⟩ := hrel
        by_cases hlt2 : k < fs.length
        · obtain ⟨b1, o1, rfl, he1⟩ := gf.out (by omega)
          obtain ⟨f, hfk⟩ := get_ex hlt2
          obtain ⟨_, _, ⟨c1, c2, rfl, hr1, hr2, -⟩, hc1⟩ := he1 k f hfk.out
          obtain ⟨p0, p1, p2, p3⟩ := (hc1.later hwW hsz).four
          obtain ⟨A4, k4, h4, hm4, -⟩ := Rp.slice1_open hr1
          obtain ⟨A5, k5, h5, hm5, gb⟩ := Rp.slice1_open hr2
          cases h4; cases h5
          replace gb := hide gb
          clear he1 hr1 hr2 hc1
          have hbel2 : Below W.heap.size W (wr.alloc (.cells #[.string f.name, .slice A4 f.params.length k4, .int .i64 f.ret, .slice A5 f.blocks.length k5] 32)) := hbel.alloc hbel.size _
          go_wp2
          go_loopw [5, 57] (fun n i wr => ∃ (k : Nat) (m : Int), k ≤ f.blocks.length ∧ i = .int .i64 k ∧ n = .int .i64 m ∧ Below W.heap.size W wr) (fun _ i _ => f.blocks.length - (intOf i).toNat)
          case atStart => exact ⟨0, _, Nat.zero_le _, rfl, rfl, hbel2⟩
          case round =>
            clear hbel hbel2
            obtain ⟨j, m3, hj, rfl, rfl, hbel⟩ := hrel
            by_cases hlt3 : j < f.blocks.length
            · obtain ⟨b2, o2, rfl, he2⟩ := gb.out (by omega)
              obtain ⟨bl, hbl⟩ := get_ex hlt3
              obtain ⟨d1, hr3, hd1⟩ := he2 j bl hbl.out
              obtain ⟨A6, k6, h6, hm6, gi⟩ := Rp.slice_open hr3
              cases h6
              replace gi := hide gi
              have hd1' : ∀ w', Below W.heap.size W w' → w'.cell? ⟨b2, o2 + j, none⟩ = some (.slice A6 bl.length k6) := fun w' h => hd1 w' (hwW.trans (h.mono hsz))
              clear he2 hr3 hd1
              have hbel2 : Below W.heap.size W (wr.alloc (.cells #[.slice A6 bl.length k6] 36)) := hbel.alloc hbel.size _
              go_wp2
              go_loopw [5, 69] (fun n i wr => ∃ (k : Nat) (m : Int), k ≤ bl.length ∧ i = .int .i64 k ∧ n = .int .i64 m ∧ Below W.heap.size W wr) (fun _ i _ => bl.length - (intOf i).toNat)
              case atStart => exact ⟨0, _, Nat.zero_le _, rfl, rfl, hbel2⟩
              case round =>
                clear hbel hbel2
                obtain ⟨r, m4, hr, rfl, rfl, hbel⟩ := hrel
                by_cases hlt4 : r < bl.length
                · obtain ⟨b4, o4, rfl, he4⟩ := gi.out (by omega)
                  obtain ⟨ins, hins⟩ := get_ex hlt4
                  obtain ⟨_, _, ⟨c4, c5, rfl, ha, hto, -⟩, hc4⟩ := he4 r ins hins.out
                  obtain ⟨q0, q1, q2, q3, q4, q5, q6⟩ := (hc4.later hwW hsz).seven
                  obtain ⟨A7, k7, h7, hm7, -⟩ := Rp.slice_open ha
                  obtain ⟨A8, k8, h8, hm8, -⟩ := Rp.slice1_open hto
                  cases h7; cases h8
                  clear he4 ha hto hc4
                  have hbel2 : Below W.heap.size W (wr.alloc (.cells #[.int .i64 ins.op, .int .i64 ins.reg, .int .i64 ins.ty, .int .i64 ins.num, .int .i64 ins.flags, .slice A7 ins.args.length k7, .slice A8 ins.to.length k8] 39)) := hbel.alloc hbel.size _
                  go_wp2
                  · go_ret
                    exact ⟨_, rfl, hwW.trans (hbel2.mono hsz)⟩
                  · go_roundw
                    case rel => exact ⟨r + 1, _, hlt4, by go_num, rfl, hbel2⟩
                    case measure => simp [intOf]; omega
                · go_wp2
                  go_roundw
                  case rel => exact ⟨j + 1, _, hlt3, by go_num, rfl, hbel⟩
                  case measure => simp [intOf]; omega
            · go_wp2
              go_roundw
              case rel => exact ⟨k + 1, _, hlt2, by go_num, rfl, hbel⟩
              case measure => simp [intOf]; omega
        · go_wp2
          go_ret
          exact ⟨_, rfl, hwW.trans (hbel.mono hsz)⟩
end Go.Proofs.Ytamjcafjdioidaa

namespace Go.Proofs.Ytamjcafjdioidaa
open Go Go.RowKit

theorem still_of_quiet {P : Program} {o : Oper} {a : Act} {w : World} {K : Act → Prop} (h : o.quiet P a (fun w' => w' = w) K) : o.still P a w K := by
  obtain ⟨v, h1, h2⟩ := h
  have h3 := h1 w rfl
  unfold Oper.quietAt at h3
  unfold Oper.still
  generalize (execOp a.eval o).run P w = r at *
  cases r with
  | ok n w' =>
    cases n <;> simp only [Oper.quietUpon] at h3 <;> simp only [Oper.stillUpon]
    case value u => obtain ⟨e1, e2⟩ := h3; subst e2; exact ⟨e1, h2⟩
    case skip => obtain ⟨e1, e2⟩ := h3; subst e2; exact ⟨e1, h2⟩
    case enter f args => exact ⟨h3.1, v, h3.2, h2⟩
  | halt x w' => simp only [Oper.quietUpon] at h3
theorem wpStill_of_quiet {P : Program} {ops : Array Oper} {w : World} {Q : Act → Prop} : ∀ {rest : List Oper} {a : Act}, wpQuiet P ops (fun w' => w' = w) Q rest a → wpStill P ops w Q rest a
  | [], _, h => h
  | o :: rest, a, h => by
    unfold wpQuiet at h
    unfold wpStill
    split
    · rename_i hw
      rw [if_pos hw] at h
      exact Oper.still_mono (fun a h => wpStill_of_quiet h) (still_of_quiet h)
    · rename_i hw
      rw [if_neg hw] at h
      exact wpStill_of_quiet h
/-- a region whose operations read, and whose callees make memory and tell values: one walk, in the class of the later worlds -/
theorem region_below {P : Program} {id : Nat} {Q : Exit → Act → World → Prop} {a : Act} {w W : World} {B : Nat} {l : List Oper} (hm : P.follows .mixedOrders = true) (hB : Region.lexB .any l.toArray = true) (hC : Below B W w)
    (h : wpQuiet P l.toArray (fun w' => Below B W w') (fun a' => ∀ w', Below B W w' → Q .normal a' w') l a) : (Code.region id l.toArray true).wp P Q a w :=
  wp_region_quiet (C := fun w' => Below B W w') hm hB ⟨hC.os, hC.tape, hC.output, hC.size, hC.block⟩ (by simpa using h)
theorem ret_class {P : Program} {k : Nat} {args : Array Value} {v : Value} {W w9 : World} (c : Calls P k args w9 fun e w' => e = .returned v ∧ Below w9.heap.size w9 w') (h : Below W.heap.size W w9) :
    Calls P k args w9 fun e w'' => e = .returned v ∧ Below W.heap.size W w'' := c.mono fun _ _ h' => ⟨h'.1, h.trans (h'.2.mono h.size)⟩
end Go.Proofs.Ytamjcafjdioidaa

namespace Go.Proofs.Ytamjcafjdioidaa
open Go.RowKit
set_option linter.unusedVariables false

section
variable {w w' : World} {B : Nat}
/-- a store into a row of type T -/
theorem But.stored {T : TypeId} {size n cap g j : Nat} {xs : List Value} {u : Value} (h : w.ownsRow B T size (.slice (some ⟨g, 0, none⟩) n cap) n xs) : But T w (w.setCell ⟨g, j, none⟩ u) := fun k c t f hk ht =>
  Below.heap_setCell _ _ _ _ (fun e => by
    obtain ⟨-, -, c', h1⟩ := row_lt h (k := g) rfl
    have e' : k = g := e
    subst e'
    rw [hk] at h1
    injection h1 with h1
    injection h1 with _ h2
    exact ht h2)
end
theorem box_at {w : World} {N : Nat} (o : Obj) (h : N = w.heap.size) : (w.alloc o).heap[N]? = some o := by subst h; exact box_top _ _
theorem bk (w : World) (o : Obj) : Below w.heap.size w (w.alloc o) := (Below.refl _ _).alloc (Nat.le_refl _) o
theorem bstep {w w' : World} {o : Obj} (h : Below (w.alloc o).heap.size (w.alloc o) w') : Below w.heap.size w w' := ((Below.refl _ _).alloc (Nat.le_refl _) o).trans (h.mono (by simp))
theorem one_fun {f : Fun} {c1 c2 : Value} {w : World} {B : Nat} (hB : B ≤ w.heap.size) (hf : RFun.rep w B [.string f.name, c1, .int .i64 f.ret, c2] f) :
    RFuns.rep (w.alloc (.cells #[.string f.name, c1, .int .i64 f.ret, c2] 32)) (w.alloc (.cells #[.string f.name, c1, .int .i64 f.ret, c2] 32)).heap.size [.slice (some ⟨w.heap.size, 0, none⟩) 1 1] [f] := by
  have hb := bk w (.cells #[.string f.name, c1, .int .i64 f.ret, c2] 32)
  refine ⟨_, 1, rfl, Nat.le_refl _, by simp [maxLen], fun _ => ⟨w.heap.size, 0, rfl, by simp, fun i x hx => ?_⟩⟩
  cases i with
  | zero =>
    cases hx
    exact ⟨_, rfl, RFun.later hf (hb.mono hB) (Nat.le_trans hB hb.size), fun j u hu => by
      have := box_cell (j := j) (u := u) (cs := #[.string f.name, c1, .int .i64 f.ret, c2]) (box_top w (.cells #[.string f.name, c1, .int .i64 f.ret, c2] 32)) (by simpa using hu) (by simp) (Below.refl _ _)
      simpa using this⟩
  | succ i => simp at hx
def LawPost (w : World) (e : Ending) (w' : World) : Prop := e = .returned (.bool true) ∧ Below w.heap.size w w'
theorem cellsOf_at {l : List Ins} {es : List (Value × Value)} {k r : Nat} {x : Ins} {c d u : Value} (hx : l[k]? = some x) (he : es[k]? = some (c, d)) (hu : (insC x c d)[r]? = some u) : (cellsOf l es)[k * 7 + r]? = some u := by
  unfold cellsOf
  refine flatten_at (n := 7) (es := insC x c d) (fun y hy => ?_) ?_ hu
  · obtain ⟨i, hi⟩ := List.getElem?_of_mem hy
    rw [List.getElem?_zipWith] at hi
    split at hi
    · cases hi; rfl
    · cases hi
  · rw [List.getElem?_zipWith, hx, he]
/-- a function with other blocks -/
def setBlocks (f : Fun) (bs : List (List Ins)) : Fun := ⟨f.name, f.params, f.ret, bs⟩
end Go.Proofs.Ytamjcafjdioidaa
