/- lathelaw02.Few answers some bool. No condition. -/
import Derived.Test.YtkhlnopbgngjbaaIrO
namespace Go.Proofs.Ytkhlnopbgngjbaa
open Go.RowKit

def RVr : Rp Vr := .plain (fun x => [.string x.name, .int .i64 x.size]) fun x => I64 x.size ∧ x.name.size ≤ maxLen
def RExt : Rp Ext where
  rep w B cs x := ∃ c, cs = [.string x.name, c, .int .i64 x.ret] ∧ RInts.rep w B [c] x.params ∧ I64 x.ret ∧ x.name.size ≤ maxLen
  keep := by
    rintro w w' B B' cs x ⟨c, h, h1, h2⟩ hk hB
    exact ⟨c, h, RInts.keep h1 hk hB, h2⟩
def RVrs : Rp (List Vr) := .slice 2 RVr
def RExts : Rp (List Ext) := .slice 3 RExt
def RFuns : Rp (List Fun) := .slice 4 RFun

/-- it answers some bool, and makes memory alone -/
def SomeBit (w : World) (e : Ending) (w' : World) : Prop := ∃ b : Bool, e = .returned (.bool b) ∧ Below w.heap.size w w'

set_option maxHeartbeats 1600000 in
theorem few_any (vs : List Vr) (xs : List Ext) (fs : List Fun) (most : Int) (c d e : Value) (w : World) (B : Nat) (hB : B ≤ w.heap.size) (hv : RVrs.rep w B [c] vs) (hx : RExts.rep w B [d] xs) (hf : RFuns.rep w B [e] fs) :
    Calls Try.prog 14 #[.agg #[c, d, e], .int .i64 most] w (SomeBit w) := by
  obtain ⟨A1, k1, h1, hm1, -⟩ := Rp.slice_open hv
  obtain ⟨A2, k2, h2, hm2, gx⟩ := Rp.slice_open (RExts.later hx (Below.refl _ _) hB)
  obtain ⟨A3, k3, h3, hm3, gf⟩ := Rp.slice_open (RFuns.later hf (Below.refl _ _) hB)
  cases h1; cases h2; cases h3
  replace gx := hide gx
  replace gf := hide gf
  clear hv hx hf
  obtain ⟨W, hW, hwW, hWs, hbx⟩ := boxes1 w #[.slice A1 vs.length k1, .slice A2 xs.length k2, .slice A3 fs.length k3] 32
  have x0 := hbx 0 _ rfl
  have x1 := hbx 1 _ rfl
  have x2 := hbx 2 _ rfl
  clear hbx
  have hsz : w.heap.size ≤ W.heap.size := by omega
  replace hWs := hide hWs
  have hself := Below.refl W.heap.size W
  go_enter Try.func14, Try.ntmps14
  go_wp2
  clear hW
  go_loopw [5, 28] (fun n i wr => ∃ (k : Nat) (m : Int), k ≤ xs.length ∧ i = .int .i64 k ∧ n = .int .i64 m ∧ Below W.heap.size W wr) (fun _ i _ => xs.length - (intOf i).toNat)
  case atStart => exact ⟨0, _, Nat.zero_le _, rfl, rfl, Below.refl _ _⟩
  case round =>
    obtain ⟨k, m, hk, rfl, rfl, hbel⟩ := hrel
    by_cases hlt : k < xs.length
    · obtain ⟨b1, o1, rfl, he1⟩ := gx.out (by omega)
      obtain ⟨x, hx⟩ := get_ex hlt
      obtain ⟨_, _, ⟨c1, rfl, hr1, -⟩, hc1⟩ := he1 k x hx.out
      obtain ⟨p0, p1, p2⟩ := (hc1.later hwW hsz).three
      obtain ⟨A4, k4, h4, hm4, -⟩ := Rp.slice1_open hr1
      cases h4
      clear he1 hr1 hc1
      go_wp2
      go_roundw
      case rel => exact ⟨k + 1, _, hlt, by go_num, rfl, hbel.alloc hbel.size _⟩
      case measure => simp [intOf]; omega
    · go_wp2
      go_loopw [5, 41] (fun n i wr => ∃ (k : Nat) (m : Int), k ≤ fs.length ∧ i = .int .i64 k ∧ n = .int .i64 m ∧ Below W.heap.size W wr) (fun _ i _ => fs.length - (intOf i).toNat)
      case atStart => exact ⟨0, _, Nat.zero_le _, rfl, rfl, hbel⟩
      case round =>
        clear hbel
        obtain ⟨k, m, hk, rfl, rfl, hbel⟩ := hrel
        by_cases hlt2 : k < fs.length
        · obtain ⟨b1, o1, rfl, he1⟩ := gf.out (by omega)
          obtain ⟨f, hfk⟩ := get_ex hlt2
          obtain ⟨_, _, ⟨c1, c2, rfl, hr1, hr2, -⟩, hc1⟩ := he1 k f hfk.out
          obtain ⟨p0, p1, p2, p3⟩ := (hc1.later hwW hsz).four
          obtain ⟨A4, k4, h4, hm4, -⟩ := Rp.slice1_open hr1
          obtain ⟨A5, k5, h5, hm5, gb⟩ := Rp.slice1_open hr2
          cases h4; cases h5
          replace gb := hide gb
          clear he1 hr1 hr2 hc1
          have hbel2 : Below W.heap.size W (wr.alloc (.cells #[.string f.name, .slice A4 f.params.length k4, .int .i64 f.ret, .slice A5 f.blocks.length k5] 25)) := hbel.alloc hbel.size _
          go_wp2
          go_loopw [5, 57] (fun n i wr => ∃ (k : Nat) (m : Int), k ≤ f.blocks.length ∧ i = .int .i64 k ∧ n = .int .i64 m ∧ Below W.heap.size W wr) (fun _ i _ => f.blocks.length - (intOf i).toNat)
          case atStart => exact ⟨0, _, Nat.zero_le _, rfl, rfl, hbel2⟩
          case round =>
            clear hbel hbel2
            obtain ⟨j, m3, hj, rfl, rfl, hbel⟩ := hrel
            by_cases hlt3 : j < f.blocks.length
            · obtain ⟨b2, o2, rfl, he2⟩ := gb.out (by omega)
              obtain ⟨bl, hbl⟩ := get_ex hlt3
              obtain ⟨d1, hr3, hd1⟩ := he2 j bl hbl.out
              obtain ⟨A6, k6, h6, hm6, gi⟩ := Rp.slice_open hr3
              cases h6
              replace gi := hide gi
              have hd1' : ∀ w', Below W.heap.size W w' → w'.cell? ⟨b2, o2 + j, none⟩ = some (.slice A6 bl.length k6) := fun w' h => hd1 w' (hwW.trans (h.mono hsz))
              clear he2 hr3 hd1
              have hbel2 : Below W.heap.size W (wr.alloc (.cells #[.slice A6 bl.length k6] 71)) := hbel.alloc hbel.size _
              go_wp2
              go_loopw [5, 69] (fun n i wr => ∃ (k : Nat) (m : Int), k ≤ bl.length ∧ i = .int .i64 k ∧ n = .int .i64 m ∧ Below W.heap.size W wr) (fun _ i _ => bl.length - (intOf i).toNat)
              case atStart => exact ⟨0, _, Nat.zero_le _, rfl, rfl, hbel2⟩
              case round =>
                clear hbel hbel2
                obtain ⟨r, m4, hr, rfl, rfl, hbel⟩ := hrel
                by_cases hlt4 : r < bl.length
                · obtain ⟨b4, o4, rfl, he4⟩ := gi.out (by omega)
                  obtain ⟨ins, hins⟩ := get_ex hlt4
                  obtain ⟨_, _, ⟨c4, c5, rfl, ha, hto, -⟩, hc4⟩ := he4 r ins hins.out
                  obtain ⟨q0, q1, q2, q3, q4, q5, q6⟩ := (hc4.later hwW hsz).seven
                  obtain ⟨A7, k7, h7, hm7, -⟩ := Rp.slice_open ha
                  obtain ⟨A8, k8, h8, hm8, -⟩ := Rp.slice1_open hto
                  cases h7; cases h8
                  clear he4 ha hto hc4
                  have hbel2 : Below W.heap.size W (wr.alloc (.cells #[.int .i64 ins.op, .int .i64 ins.reg, .int .i64 ins.ty, .int .i64 ins.num, .int .i64 ins.flags, .slice A7 ins.args.length k7, .slice A8 ins.to.length k8] 74)) := hbel.alloc hbel.size _
                  go_wp2
                  · go_ret
                    exact ⟨_, rfl, hwW.trans (hbel2.mono hsz)⟩
                  · go_roundw
                    case rel => exact ⟨r + 1, _, hlt4, by go_num, rfl, hbel2⟩
                    case measure => simp [intOf]; omega
                · go_wp2
                  go_roundw
                  case rel => exact ⟨j + 1, _, hlt3, by go_num, rfl, hbel⟩
                  case measure => simp [intOf]; omega
            · go_wp2
              go_roundw
              case rel => exact ⟨k + 1, _, hlt2, by go_num, rfl, hbel⟩
              case measure => simp [intOf]; omega
        · go_wp2
          go_ret
          exact ⟨_, rfl, hwW.trans (hbel.mono hsz)⟩
end Go.Proofs.Ytkhlnopbgngjbaa
