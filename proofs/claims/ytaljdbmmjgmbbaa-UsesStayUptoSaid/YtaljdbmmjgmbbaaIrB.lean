/- ir.each, over each closure that the program hands to it: an invariant that the closure's calls hand on. No condition. -/
import Derived.Test.YtaljdbmmjgmbbaaIrA
import Derived.Test.YtaljdbmmjgmbbaaOnly
namespace Go.Proofs.Ytaljdbmmjgmbbaa
open Go.RowKit

abbrev I64 (n : Int) : Prop := (Lit.int .i64 n).wf = true
def RInt : Rp Int := .plain (fun n => [.int .i64 n]) I64
def ROpd : Rp Opd := .plain (fun x => [.int .i64 x.kind, .int .i64 x.num, .int .u64 x.bits]) fun x => I64 x.kind ∧ I64 x.num
def RInts : Rp (List Int) := .slice 1 RInt
def ROpds : Rp (List Opd) := .slice 3 ROpd
def RIns : Rp Ins where
  rep w B cs x := ∃ c d, cs = [.int .i64 x.op, .int .i64 x.reg, .int .i64 x.ty, .int .i64 x.num, .int .i64 x.flags, c, d] ∧ ROpds.rep w B [c] x.args ∧ RInts.rep w B [d] x.to ∧ I64 x.op ∧ I64 x.reg ∧ I64 x.ty ∧ I64 x.num ∧ I64 x.flags
  keep := by
    rintro w w' B B' cs x ⟨c, d, h, h1, h2, h3⟩ hk hB
    exact ⟨c, d, h, ROpds.keep h1 hk hB, RInts.keep h2 hk hB, h3⟩
def RBlk : Rp (List Ins) := .slice 7 RIns
def RBlks : Rp (List (List Ins)) := .slice 1 RBlk

abbrev Fun.v (x : Fun) (c d : Value) : Value := .agg #[.string x.name, c, .int .i64 x.ret, d]

set_option maxHeartbeats 400000 in
/-- ir.each with lathe/ir.Uses$1, which holds 2 captured variables. -/
theorem each_Uses (f : Fun) (c1 c2 p1 p2 : Value) (S : Nat → Prop) (Inv : Nat → Nat → World → Prop) (Stop : World → Prop) (w : World) (B : Nat) (hB : B ≤ w.heap.size) (hS : ∀ k, S k → B ≤ k)
    (hp : RInts.rep w B [c1] f.params) (hb : RBlks.rep w B [c2] f.blocks)
    (hI : ∀ o, Inv 0 0 (w.alloc o))
    (hnext : ∀ i x w1, f.blocks[i]? = some x → Inv i x.length w1 → Inv (i + 1) 0 w1)
    (hstep : ∀ (i j : Nat) (x : List Ins) (ins : Ins) (b o : Nat) (es : List Value) (w1 : World), f.blocks[i]? = some x → x[j]? = some ins → Only S w.heap.size w w1 → b < B → es.length = 7 → RIns.rep w1 B es ins → At w1 b o es → Inv i j w1 →
      Calls Try.prog 70 #[.agg #[.int .i64 0, .int .i64 i, .int .i64 j], .pointer (some ⟨b, o, none⟩), p1, p2] w1 fun e w2 => ∃ r : Bool, e = .returned (.bool r) ∧ Only (fun k => S k ∧ k < w.heap.size) w1.heap.size w1 w2 ∧ (r = true → Inv i (j + 1) w2) ∧ (r = false → Stop w2)) :
    Calls Try.prog 61 #[f.v c1 c2, .func (.func 70) #[] #[p1, p2]] w fun e w' => e = .returned (.tuple #[]) ∧ Only S w.heap.size w w' ∧ (Inv f.blocks.length 0 w' ∨ Stop w') := by
  obtain ⟨A1, k1, h1, hm1, _⟩ := Rp.slice1_at hp
  obtain ⟨A2, k2, h2, hm2, gb⟩ := Rp.slice1_at hb
  cases h1; cases h2
  replace gb := hide gb
  replace hI := hide hI
  replace hnext := hide hnext
  replace hstep := hide hstep
  replace hS := hide hS
  replace hp := hide hp
  replace hb := hide hb
  go_enter Try.func61, Try.ntmps61
  go_wp2
  have hI0 := hide (hI.out (.cells #[.string f.name, .slice A1 f.params.length k1, .int .i64 f.ret, .slice A2 f.blocks.length k2] 25))
  obtain ⟨W, hW, hwW, hWs, hx⟩ := boxes1 w #[.string f.name, .slice A1 f.params.length k1, .int .i64 f.ret, .slice A2 f.blocks.length k2] 25
  rw [hW]
  rw [hW] at hI0
  clear hW
  have hsz : w.heap.size ≤ W.heap.size := by omega
  have x3 : ∀ w', Only (fun k => S k ∧ k < w.heap.size) W.heap.size W w' → w'.cell? ⟨w.heap.size, 3, none⟩ = some (.slice A2 f.blocks.length k2) := fun w' h =>
    (h.cell (p := ⟨w.heap.size, 3, none⟩) (by show w.heap.size < _; omega) (fun hs => by have : w.heap.size < w.heap.size := hs.2; omega)).trans (hx 3 _ rfl W (Below.refl _ _))
  clear hx
  replace hWs := hide hWs
  have hS' : Hid (∀ k, (S k ∧ k < w.heap.size) → B ≤ k) := hide (fun k hk => hS.out k hk.1)
  have hwW' : Hid (Only (fun k => S k ∧ k < w.heap.size) w.heap.size w W) := hide (.of_below hwW)
  go_loopw [9] (fun i wr => ∃ k : Nat, k ≤ f.blocks.length ∧ i = .int .i64 k ∧ Hid (Inv k 0 wr) ∧ Only (fun k => S k ∧ k < w.heap.size) W.heap.size W wr) (fun i _ => f.blocks.length - (intOf i).toNat)
  case atStart => exact ⟨0, Nat.zero_le _, rfl, hI0, Only.refl _ _ _⟩
  case round =>
    obtain ⟨k, hk, rfl, hinv, hbel⟩ := hrel
    by_cases hlt : k < f.blocks.length
    · obtain ⟨b1, o1, rfl, hb1, he1⟩ := gb.out (by omega)
      obtain ⟨x, hx⟩ := get_ex hlt
      obtain ⟨d1, hr1, hd1⟩ := he1 k x hx.out
      obtain ⟨A3, c3, h3, hm3, ga3⟩ := Rp.slice_at hr1
      cases h3
      replace ga3 := hide ga3
      have hd1' : ∀ w', Only (fun k => S k ∧ k < w.heap.size) W.heap.size W w' → w'.cell? ⟨b1, o1 + k, none⟩ = some (.slice A3 x.length c3) := fun w' h => only_cell hd1 hS'.out hb1 hB w' (hwW'.out.trans (h.mono hsz))
      clear hd1 hr1 he1
      go_wp2
      go_loopw [19] (fun i wr1 => ∃ m : Nat, m ≤ x.length ∧ i = .int .i64 m ∧ Hid (Inv k m wr1) ∧ Only (fun k => S k ∧ k < w.heap.size) W.heap.size W wr1) (fun i _ => x.length - (intOf i).toNat)
      case atStart => exact ⟨0, Nat.zero_le _, rfl, hinv, hbel⟩
      case round =>
        clear hinv
        obtain ⟨m, hm, rfl, hinv, hbel1⟩ := hrel
        by_cases hlt2 : m < x.length
        · obtain ⟨b3, o3, rfl, hb3, he3⟩ := ga3.out (by omega)
          obtain ⟨ins, hins⟩ := get_ex hlt2
          obtain ⟨es, hes, hri, hat⟩ := he3 m ins hins.out
          have hcall := hide (hstep.out k m x ins b3 (o3 + m * 7) es _ hx.out hins.out ((hwW'.out.trans (hbel1.mono hsz)).more (fun _ _ h => h.1)) hb3 hes (Rp.only hri (hwW'.out.trans (hbel1.mono hsz)) hS'.out hB) (hat.only (hwW'.out.trans (hbel1.mono hsz)) hS'.out hb3 hB) hinv.out)
          clear he3 hri hat
          go_wp2_with fail
          refine hcall.out.mono ?_
          rintro e w2 ⟨r, rfl, hw2, ht, hf⟩
          clear hcall
          have hbel2 := hbel1.next (Nat.le_refl _) hw2
          clear hw2
          cases r with
          | true =>
            replace ht := hide (ht rfl)
            clear hf
            go_wp2
            go_roundw
            case rel => exact ⟨m + 1, hlt2, by go_num, ht, hbel2⟩
            case measure => simp [intOf]; omega
          | false =>
            replace hf := hide (hf rfl)
            clear ht
            go_wp2
            exact bodyPost_ret (results_none rfl _ _ _) rfl ⟨rfl, (hwW'.out.trans (hbel2.mono hsz)).more (fun _ _ h => h.1), .inr hf.out⟩
        · have hlast : Hid (Inv k x.length _) := hide (show Inv k x.length _ from (show m = x.length by omega) ▸ hinv.out)
          go_wp2
          go_roundw
          case rel => exact ⟨k + 1, hlt, by go_num, hide (hnext.out k x _ hx.out hlast.out), hbel1⟩
          case measure => simp [intOf]; omega
    · obtain rfl : k = f.blocks.length := by omega
      go_wp2
      go_end0
      exact ⟨rfl, (hwW'.out.trans (hbel.mono hsz)).more (fun _ _ h => h.1), .inl hinv.out⟩

set_option maxHeartbeats 400000 in
/-- ir.each with lathe/ir.Fresh$1, which holds 1 captured variables. -/
theorem each_Fresh (f : Fun) (c1 c2 p1 : Value) (S : Nat → Prop) (Inv : Nat → Nat → World → Prop) (Stop : World → Prop) (w : World) (B : Nat) (hB : B ≤ w.heap.size) (hS : ∀ k, S k → B ≤ k)
    (hp : RInts.rep w B [c1] f.params) (hb : RBlks.rep w B [c2] f.blocks)
    (hI : ∀ o, Inv 0 0 (w.alloc o))
    (hnext : ∀ i x w1, f.blocks[i]? = some x → Inv i x.length w1 → Inv (i + 1) 0 w1)
    (hstep : ∀ (i j : Nat) (x : List Ins) (ins : Ins) (b o : Nat) (es : List Value) (w1 : World), f.blocks[i]? = some x → x[j]? = some ins → Only S w.heap.size w w1 → b < B → es.length = 7 → RIns.rep w1 B es ins → At w1 b o es → Inv i j w1 →
      Calls Try.prog 93 #[.agg #[.int .i64 0, .int .i64 i, .int .i64 j], .pointer (some ⟨b, o, none⟩), p1] w1 fun e w2 => ∃ r : Bool, e = .returned (.bool r) ∧ Only (fun k => S k ∧ k < w.heap.size) w1.heap.size w1 w2 ∧ (r = true → Inv i (j + 1) w2) ∧ (r = false → Stop w2)) :
    Calls Try.prog 61 #[f.v c1 c2, .func (.func 93) #[] #[p1]] w fun e w' => e = .returned (.tuple #[]) ∧ Only S w.heap.size w w' ∧ (Inv f.blocks.length 0 w' ∨ Stop w') := by
  obtain ⟨A1, k1, h1, hm1, _⟩ := Rp.slice1_at hp
  obtain ⟨A2, k2, h2, hm2, gb⟩ := Rp.slice1_at hb
  cases h1; cases h2
  replace gb := hide gb
  replace hI := hide hI
  replace hnext := hide hnext
  replace hstep := hide hstep
  replace hS := hide hS
  replace hp := hide hp
  replace hb := hide hb
  go_enter Try.func61, Try.ntmps61
  go_wp2
  have hI0 := hide (hI.out (.cells #[.string f.name, .slice A1 f.params.length k1, .int .i64 f.ret, .slice A2 f.blocks.length k2] 25))
  obtain ⟨W, hW, hwW, hWs, hx⟩ := boxes1 w #[.string f.name, .slice A1 f.params.length k1, .int .i64 f.ret, .slice A2 f.blocks.length k2] 25
  rw [hW]
  rw [hW] at hI0
  clear hW
  have hsz : w.heap.size ≤ W.heap.size := by omega
  have x3 : ∀ w', Only (fun k => S k ∧ k < w.heap.size) W.heap.size W w' → w'.cell? ⟨w.heap.size, 3, none⟩ = some (.slice A2 f.blocks.length k2) := fun w' h =>
    (h.cell (p := ⟨w.heap.size, 3, none⟩) (by show w.heap.size < _; omega) (fun hs => by have : w.heap.size < w.heap.size := hs.2; omega)).trans (hx 3 _ rfl W (Below.refl _ _))
  clear hx
  replace hWs := hide hWs
  have hS' : Hid (∀ k, (S k ∧ k < w.heap.size) → B ≤ k) := hide (fun k hk => hS.out k hk.1)
  have hwW' : Hid (Only (fun k => S k ∧ k < w.heap.size) w.heap.size w W) := hide (.of_below hwW)
  go_loopw [9] (fun i wr => ∃ k : Nat, k ≤ f.blocks.length ∧ i = .int .i64 k ∧ Hid (Inv k 0 wr) ∧ Only (fun k => S k ∧ k < w.heap.size) W.heap.size W wr) (fun i _ => f.blocks.length - (intOf i).toNat)
  case atStart => exact ⟨0, Nat.zero_le _, rfl, hI0, Only.refl _ _ _⟩
  case round =>
    obtain ⟨k, hk, rfl, hinv, hbel⟩ := hrel
    by_cases hlt : k < f.blocks.length
    · obtain ⟨b1, o1, rfl, hb1, he1⟩ := gb.out (by omega)
      obtain ⟨x, hx⟩ := get_ex hlt
      obtain ⟨d1, hr1, hd1⟩ := he1 k x hx.out
      obtain ⟨A3, c3, h3, hm3, ga3⟩ := Rp.slice_at hr1
      cases h3
      replace ga3 := hide ga3
      have hd1' : ∀ w', Only (fun k => S k ∧ k < w.heap.size) W.heap.size W w' → w'.cell? ⟨b1, o1 + k, none⟩ = some (.slice A3 x.length c3) := fun w' h => only_cell hd1 hS'.out hb1 hB w' (hwW'.out.trans (h.mono hsz))
      clear hd1 hr1 he1
      go_wp2
      go_loopw [19] (fun i wr1 => ∃ m : Nat, m ≤ x.length ∧ i = .int .i64 m ∧ Hid (Inv k m wr1) ∧ Only (fun k => S k ∧ k < w.heap.size) W.heap.size W wr1) (fun i _ => x.length - (intOf i).toNat)
      case atStart => exact ⟨0, Nat.zero_le _, rfl, hinv, hbel⟩
      case round =>
        clear hinv
        obtain ⟨m, hm, rfl, hinv, hbel1⟩ := hrel
        by_cases hlt2 : m < x.length
        · obtain ⟨b3, o3, rfl, hb3, he3⟩ := ga3.out (by omega)
          obtain ⟨ins, hins⟩ := get_ex hlt2
          obtain ⟨es, hes, hri, hat⟩ := he3 m ins hins.out
          have hcall := hide (hstep.out k m x ins b3 (o3 + m * 7) es _ hx.out hins.out ((hwW'.out.trans (hbel1.mono hsz)).more (fun _ _ h => h.1)) hb3 hes (Rp.only hri (hwW'.out.trans (hbel1.mono hsz)) hS'.out hB) (hat.only (hwW'.out.trans (hbel1.mono hsz)) hS'.out hb3 hB) hinv.out)
          clear he3 hri hat
          go_wp2_with fail
          refine hcall.out.mono ?_
          rintro e w2 ⟨r, rfl, hw2, ht, hf⟩
          clear hcall
          have hbel2 := hbel1.next (Nat.le_refl _) hw2
          clear hw2
          cases r with
          | true =>
            replace ht := hide (ht rfl)
            clear hf
            go_wp2
            go_roundw
            case rel => exact ⟨m + 1, hlt2, by go_num, ht, hbel2⟩
            case measure => simp [intOf]; omega
          | false =>
            replace hf := hide (hf rfl)
            clear ht
            go_wp2
            exact bodyPost_ret (results_none rfl _ _ _) rfl ⟨rfl, (hwW'.out.trans (hbel2.mono hsz)).more (fun _ _ h => h.1), .inr hf.out⟩
        · have hlast : Hid (Inv k x.length _) := hide (show Inv k x.length _ from (show m = x.length by omega) ▸ hinv.out)
          go_wp2
          go_roundw
          case rel => exact ⟨k + 1, hlt, by go_num, hide (hnext.out k x _ hx.out hlast.out), hbel1⟩
          case measure => simp [intOf]; omega
    · obtain rfl : k = f.blocks.length := by omega
      go_wp2
      go_end0
      exact ⟨rfl, (hwW'.out.trans (hbel.mono hsz)).more (fun _ _ h => h.1), .inl hinv.out⟩

set_option maxHeartbeats 400000 in
/-- ir.each with lathe/ir.Def$1, which holds 3 captured variables. -/
theorem each_Def (f : Fun) (c1 c2 p1 p2 p3 : Value) (S : Nat → Prop) (Inv : Nat → Nat → World → Prop) (Stop : World → Prop) (w : World) (B : Nat) (hB : B ≤ w.heap.size) (hS : ∀ k, S k → B ≤ k)
    (hp : RInts.rep w B [c1] f.params) (hb : RBlks.rep w B [c2] f.blocks)
    (hI : ∀ o, Inv 0 0 (w.alloc o))
    (hnext : ∀ i x w1, f.blocks[i]? = some x → Inv i x.length w1 → Inv (i + 1) 0 w1)
    (hstep : ∀ (i j : Nat) (x : List Ins) (ins : Ins) (b o : Nat) (es : List Value) (w1 : World), f.blocks[i]? = some x → x[j]? = some ins → Only S w.heap.size w w1 → b < B → es.length = 7 → RIns.rep w1 B es ins → At w1 b o es → Inv i j w1 →
      Calls Try.prog 72 #[.agg #[.int .i64 0, .int .i64 i, .int .i64 j], .pointer (some ⟨b, o, none⟩), p1, p2, p3] w1 fun e w2 => ∃ r : Bool, e = .returned (.bool r) ∧ Only (fun k => S k ∧ k < w.heap.size) w1.heap.size w1 w2 ∧ (r = true → Inv i (j + 1) w2) ∧ (r = false → Stop w2)) :
    Calls Try.prog 61 #[f.v c1 c2, .func (.func 72) #[] #[p1, p2, p3]] w fun e w' => e = .returned (.tuple #[]) ∧ Only S w.heap.size w w' ∧ (Inv f.blocks.length 0 w' ∨ Stop w') := by
  obtain ⟨A1, k1, h1, hm1, _⟩ := Rp.slice1_at hp
  obtain ⟨A2, k2, h2, hm2, gb⟩ := Rp.slice1_at hb
  cases h1; cases h2
  replace gb := hide gb
  replace hI := hide hI
  replace hnext := hide hnext
  replace hstep := hide hstep
  replace hS := hide hS
  replace hp := hide hp
  replace hb := hide hb
  go_enter Try.func61, Try.ntmps61
  go_wp2
  have hI0 := hide (hI.out (.cells #[.string f.name, .slice A1 f.params.length k1, .int .i64 f.ret, .slice A2 f.blocks.length k2] 25))
  obtain ⟨W, hW, hwW, hWs, hx⟩ := boxes1 w #[.string f.name, .slice A1 f.params.length k1, .int .i64 f.ret, .slice A2 f.blocks.length k2] 25
  rw [hW]
  rw [hW] at hI0
  clear hW
  have hsz : w.heap.size ≤ W.heap.size := by omega
  have x3 : ∀ w', Only (fun k => S k ∧ k < w.heap.size) W.heap.size W w' → w'.cell? ⟨w.heap.size, 3, none⟩ = some (.slice A2 f.blocks.length k2) := fun w' h =>
    (h.cell (p := ⟨w.heap.size, 3, none⟩) (by show w.heap.size < _; omega) (fun hs => by have : w.heap.size < w.heap.size := hs.2; omega)).trans (hx 3 _ rfl W (Below.refl _ _))
  clear hx
  replace hWs := hide hWs
  have hS' : Hid (∀ k, (S k ∧ k < w.heap.size) → B ≤ k) := hide (fun k hk => hS.out k hk.1)
  have hwW' : Hid (Only (fun k => S k ∧ k < w.heap.size) w.heap.size w W) := hide (.of_below hwW)
  go_loopw [9] (fun i wr => ∃ k : Nat, k ≤ f.blocks.length ∧ i = .int .i64 k ∧ Hid (Inv k 0 wr) ∧ Only (fun k => S k ∧ k < w.heap.size) W.heap.size W wr) (fun i _ => f.blocks.length - (intOf i).toNat)
  case atStart => exact ⟨0, Nat.zero_le _, rfl, hI0, Only.refl _ _ _⟩
  case round =>
    obtain ⟨k, hk, rfl, hinv, hbel⟩ := hrel
    by_cases hlt : k < f.blocks.length
    · obtain ⟨b1, o1, rfl, hb1, he1⟩ := gb.out (by omega)
      obtain ⟨x, hx⟩ := get_ex hlt
      obtain ⟨d1, hr1, hd1⟩ := he1 k x hx.out
      obtain ⟨A3, c3, h3, hm3, ga3⟩ := Rp.slice_at hr1
      cases h3
      replace ga3 := hide ga3
      have hd1' : ∀ w', Only (fun k => S k ∧ k < w.heap.size) W.heap.size W w' → w'.cell? ⟨b1, o1 + k, none⟩ = some (.slice A3 x.length c3) := fun w' h => only_cell hd1 hS'.out hb1 hB w' (hwW'.out.trans (h.mono hsz))
      clear hd1 hr1 he1
      go_wp2
      go_loopw [19] (fun i wr1 => ∃ m : Nat, m ≤ x.length ∧ i = .int .i64 m ∧ Hid (Inv k m wr1) ∧ Only (fun k => S k ∧ k < w.heap.size) W.heap.size W wr1) (fun i _ => x.length - (intOf i).toNat)
      case atStart => exact ⟨0, Nat.zero_le _, rfl, hinv, hbel⟩
      case round =>
        clear hinv
        obtain ⟨m, hm, rfl, hinv, hbel1⟩ := hrel
        by_cases hlt2 : m < x.length
        · obtain ⟨b3, o3, rfl, hb3, he3⟩ := ga3.out (by omega)
          obtain ⟨ins, hins⟩ := get_ex hlt2
          obtain ⟨es, hes, hri, hat⟩ := he3 m ins hins.out
          have hcall := hide (hstep.out k m x ins b3 (o3 + m * 7) es _ hx.out hins.out ((hwW'.out.trans (hbel1.mono hsz)).more (fun _ _ h => h.1)) hb3 hes (Rp.only hri (hwW'.out.trans (hbel1.mono hsz)) hS'.out hB) (hat.only (hwW'.out.trans (hbel1.mono hsz)) hS'.out hb3 hB) hinv.out)
          clear he3 hri hat
          go_wp2_with fail
          refine hcall.out.mono ?_
          rintro e w2 ⟨r, rfl, hw2, ht, hf⟩
          clear hcall
          have hbel2 := hbel1.next (Nat.le_refl _) hw2
          clear hw2
          cases r with
          | true =>
            replace ht := hide (ht rfl)
            clear hf
            go_wp2
            go_roundw
            case rel => exact ⟨m + 1, hlt2, by go_num, ht, hbel2⟩
            case measure => simp [intOf]; omega
          | false =>
            replace hf := hide (hf rfl)
            clear ht
            go_wp2
            exact bodyPost_ret (results_none rfl _ _ _) rfl ⟨rfl, (hwW'.out.trans (hbel2.mono hsz)).more (fun _ _ h => h.1), .inr hf.out⟩
        · have hlast : Hid (Inv k x.length _) := hide (show Inv k x.length _ from (show m = x.length by omega) ▸ hinv.out)
          go_wp2
          go_roundw
          case rel => exact ⟨k + 1, hlt, by go_num, hide (hnext.out k x _ hx.out hlast.out), hbel1⟩
          case measure => simp [intOf]; omega
    · obtain rfl : k = f.blocks.length := by omega
      go_wp2
      go_end0
      exact ⟨rfl, (hwW'.out.trans (hbel.mono hsz)).more (fun _ _ h => h.1), .inl hinv.out⟩

end Go.Proofs.Ytaljdbmmjgmbbaa
