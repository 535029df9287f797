/- ir.Uses and its closure. No condition. -/
import Derived.Test.YtaljdbmmjgmbbaaIrB
namespace Go.Proofs.Ytaljdbmmjgmbbaa
open Go.RowKit

abbrev Is (N : Nat) : Nat → Prop := fun k => k = N

set_option maxHeartbeats 800000 in
theorem uses_step (i j : Nat) (ins : Ins) (reg : Int) (c : Nat) (b o R N : Nat) (es : List Value) (w : World) (B : Nat) (hB : B ≤ w.heap.size) (hNB : B ≤ N) (hN : N < w.heap.size) (hRN : R ≠ N) (hR : R < w.heap.size)
    (hb : b < B) (hi : RIns.rep w B es ins) (hat : At w b o es) (hreg : w.cell? ⟨R, 0, none⟩ = some (.int .i64 reg)) (hn : w.heap[N]? = some (.cells #[.int .i64 c] 3 (0, 0))) (hc : c + ins.args.length ≤ 1099511627776) :
    Calls Try.prog 70 #[.agg #[.int .i64 0, .int .i64 i, .int .i64 j], .pointer (some ⟨b, o, none⟩), .pointer (some ⟨R, 0, none⟩), .pointer (some ⟨N, 0, none⟩)] w fun e w' =>
      e = .returned (.bool true) ∧ Only (Is N) w.heap.size w w' ∧ w'.heap[N]? = some (.cells #[.int .i64 ((c + usesIn ins.args reg : Nat) : Int)] 3 (0, 0)) := by
  obtain ⟨d1, d2, rfl, ha, _, _⟩ := hi
  obtain ⟨A1, k1, h1, hm1, ga⟩ := Rp.slice_at ha
  cases h1
  have hS : ∀ k, Is N k → B ≤ k := fun k hk => by rw [hk]; exact hNB
  have hoc : OCells (Is N) w.heap.size w b o _ := hat.ocells hS hb hB
  have x5 := hoc.at_ 5 rfl
  have hal : ∀ obj, Only (Is N) w.heap.size w (w.alloc obj) := fun obj => (Only.refl _ _ _).alloc (Nat.le_refl _) obj
  replace ga := hide ga
  replace hS := hide hS
  clear hoc hat ha
  have hn0 := hide hn
  have hreg0 := hide hreg
  clear hn hreg
  go_enter Try.func70, Try.ntmps70
  go_wp2_with fail
  obtain ⟨W, hW, hwW, hWs, _⟩ := boxes1 w #[.int .i64 0, .int .i64 i, .int .i64 j] 58
  rw [hW]
  have hnW : Hid (W.heap[N]? = some (.cells #[.int .i64 c] 3 (0, 0))) := hide ((hwW.block N hN).trans hn0.out)
  clear hW hal
  have hsz : w.heap.size ≤ W.heap.size := by omega
  replace hWs := hide hWs
  have hreg : ∀ w', Only (Is N) W.heap.size W w' → w'.cell? ⟨R, 0, none⟩ = some (.int .i64 reg) := fun w' h =>
    (h.cell (p := ⟨R, 0, none⟩) (by show R < _; omega) (by show ¬ R = N; omega)).trans ((hwW.cell (p := ⟨R, 0, none⟩) (by show R < _; omega)).trans hreg0.out)
  have hNW : N < W.heap.size := by omega
  go_loopw [14] (fun i wr => ∃ k : Nat, k ≤ ins.args.length ∧ i = .int .i64 k ∧ Only (Is N) W.heap.size W wr ∧ Hid (wr.heap[N]? = some (.cells #[.int .i64 ((c + usesIn (ins.args.take k) reg : Nat) : Int)] 3 (0, 0)))) (fun i _ => ins.args.length - (intOf i).toNat)
  case atStart => exact ⟨0, Nat.zero_le _, rfl, Only.refl _ _ _, hide (by simpa [usesIn] using hnW.out)⟩
  case round =>
    obtain ⟨k, hk, rfl, hbel, hcell⟩ := hrel
    have hle := usesIn_take_le ins.args reg k
    by_cases hlt : k < ins.args.length
    · obtain ⟨b1, o1, rfl, hb1, he1⟩ := ga.out (by omega)
      obtain ⟨v, hv⟩ := get_ex hlt
      obtain ⟨_, _, ⟨rfl, _⟩, hat⟩ := he1 k v hv.out
      obtain ⟨p0, p1, p2⟩ := (OCells.three (hat.ocells hS.out hb1 hB))
      have q0 : ∀ w', Only (Is N) W.heap.size W w' → w'.cell? ⟨b1, o1 + k * 3, none⟩ = some (.int .i64 v.kind) := fun w' h => p0 w' ((Only.of_below hwW).trans (h.mono hsz))
      have q1 : ∀ w', Only (Is N) W.heap.size W w' → w'.cell? ⟨b1, o1 + k * 3 + 1, none⟩ = some (.int .i64 v.num) := fun w' h => p1 w' ((Only.of_below hwW).trans (h.mono hsz))
      have q2 : ∀ w', Only (Is N) W.heap.size W w' → w'.cell? ⟨b1, o1 + k * 3 + 2, none⟩ = some (.int .u64 v.bits) := fun w' h => p2 w' ((Only.of_below hwW).trans (h.mono hsz))
      clear p0 p1 p2 he1 hat
      have hNr : N < wr.heap.size := by have := hbel.size; omega
      have hal : ∀ obj, Only (Is N) W.heap.size W (wr.alloc obj) := fun obj => hbel.alloc hbel.size obj
      obtain ⟨m, hm⟩ : ∃ m : Nat, m = c + usesIn (ins.args.take k) reg := ⟨_, rfl⟩
      have hmb : m ≤ 1099511627776 := by omega
      have hm' : Hid (m = c + usesIn (ins.args.take k) reg) := hide hm
      have hN1 : ∀ obj, (wr.alloc obj).cell? ⟨N, 0, none⟩ = some (.int .i64 m) := fun obj => by rw [hm]; exact one_cell (one_alloc hcell.out obj)
      have hN2 : ∀ obj, (wr.alloc obj).frozen? ⟨N, 0, none⟩ = false := fun obj => one_free (one_alloc hcell.out obj)
      clear hm
      cases hk1 : (v.kind == 1) with
      | false =>
        have hu : Hid (usesIn (ins.args.take (k + 1)) reg = usesIn (ins.args.take k) reg) := hide (by rw [usesIn_take _ _ _ hv.out, if_neg (by simp at hk1; simp [hk1]), Nat.add_zero])
        go_wp2
        go_roundw
        case rel => exact ⟨k + 1, hlt, by go_num, hal _, hide (by rw [hu.out]; exact one_alloc hcell.out _)⟩
        case measure => simp [intOf]; omega
      | true =>
        cases hk2 : (v.num == reg) with
        | false =>
          have hu : Hid (usesIn (ins.args.take (k + 1)) reg = usesIn (ins.args.take k) reg) := hide (by rw [usesIn_take _ _ _ hv.out, if_neg (by simp at hk2; simp [hk2]), Nat.add_zero])
          go_wp2
          go_roundw
          case rel => exact ⟨k + 1, hlt, by go_num, hal _, hide (by rw [hu.out]; exact one_alloc hcell.out _)⟩
          case measure => simp [intOf]; omega
        | true =>
          have hu : Hid (usesIn (ins.args.take (k + 1)) reg = usesIn (ins.args.take k) reg + 1) := hide (by rw [usesIn_take _ _ _ hv.out, if_pos (by simp at hk1 hk2; exact ⟨hk1, hk2⟩)])
          go_wp2
          go_roundw
          case rel =>
            refine ⟨k + 1, hlt, by go_num, (hbel.setCell (.inl rfl) _).alloc (by simpa [World.setCell] using hbel.size) _, hide ?_⟩
            rw [hu.out, ← Nat.add_assoc, ← hm'.out]
            exact one_alloc (set_one hcell.out) _
          case measure => simp [intOf]; omega
    · go_wp2
      go_ret
      exact ⟨rfl, (Only.of_below hwW).trans (hbel.mono hsz), by rw [hcell.out, List.take_of_length_le (by omega)]⟩

set_option maxHeartbeats 800000 in
theorem uses_any (f : Fun) (reg : Int) (c1 c2 : Value) (w : World) (B : Nat) (hB : B ≤ w.heap.size) (hp : RInts.rep w B [c1] f.params) (hb : RBlks.rep w B [c2] f.blocks) (hsz : argsL f.blocks.flatten ≤ 1000000000000) :
    Calls Try.prog 29 #[f.v c1 c2, .int .i64 reg] w fun e w' => e = .returned (.int .i64 (iuses f reg)) ∧ Below w.heap.size w w' := by
  obtain ⟨A1, k1, h1, hm1, _⟩ := Rp.slice1_at hp
  obtain ⟨A2, k2, h2, hm2, _⟩ := Rp.slice1_at hb
  cases h1; cases h2
  replace hp := hide hp
  replace hb := hide hb
  go_enter Try.func29, Try.ntmps29
  go_wp2_with fail
  obtain ⟨W, hW, hwW, hWs, hf, hr, hn⟩ := boxes3 w #[.string f.name, .slice A1 f.params.length k1, .int .i64 f.ret, .slice A2 f.blocks.length k2] #[.int .i64 reg] #[.int .i64 0] 25 3 3
  have hN0 : W.heap[w.heap.size + 1 + 1]? = some (.cells #[.int .i64 0] 3 (0, 0)) := by
    rw [← hW]
    have := box_top ((w.alloc (.cells #[.string f.name, .slice A1 f.params.length k1, .int .i64 f.ret, .slice A2 f.blocks.length k2] 25)).alloc (.cells #[.int .i64 reg] 3)) (.cells #[.int .i64 0] 3)
    simpa using this
  rw [hW]
  clear hW
  have hsz2 : w.heap.size ≤ W.heap.size := by omega
  have hr0 := hr 0 _ rfl W (Below.refl _ _)
  have hcall := each_Uses f _ _ (.pointer (some ⟨w.heap.size + 1, 0, none⟩)) (.pointer (some ⟨w.heap.size + 1 + 1, 0, none⟩)) (Is (w.heap.size + 1 + 1))
    (fun i j w1 => w1.heap[w.heap.size + 1 + 1]? = some (.cells #[.int .i64 ((usesL (before f.blocks i j) reg : Nat) : Int)] 3 (0, 0))) (fun _ => False) W w.heap.size hsz2 (fun k hk => by rw [hk]; omega)
    (RInts.later hp.out (hwW.mono hB) hB) (RBlks.later hb.out (hwW.mono hB) hB) (fun o => one_alloc hN0 o) (fun i x w1 hx h => by rw [← before_next hx]; exact h)
    (fun i j x ins b o es w1 hx hi hw1 hb1 hes hri hat hinv => by
      have hs1 := hw1.size
      have hlen := argsL_before hx hi
      have hle := usesL_le (before f.blocks i j) reg
      refine (uses_step i j ins reg (usesL (before f.blocks i j) reg) b o (w.heap.size + 1) (w.heap.size + 1 + 1) es w1 w.heap.size (by omega) (by omega) (by omega) (by omega) (by omega) hb1 hri hat
        ((hw1.cell (p := ⟨w.heap.size + 1, 0, none⟩) (by show w.heap.size + 1 < _; omega) (by show ¬ (w.heap.size + 1 = w.heap.size + 1 + 1); omega)).trans hr0) hinv (by omega)).mono ?_
      rintro e w2 ⟨rfl, h1, h2⟩
      refine ⟨true, rfl, h1.more (fun k hk hs => ⟨hs, by rw [hs]; omega⟩), fun _ => ?_, fun h => by cases h⟩
      rw [before_step hx hi, usesL_snoc]
      exact h2)
  replace hcall := hide hcall
  clear hf hr hn
  replace hWs := hide hWs
  replace hN0 := hide hN0
  clear hr0
  refine hcall.out.mono ?_
  rintro e w1 ⟨rfl, hw1, h1 | h1⟩
  · rw [before_end] at h1
    have hc1 : w1.cell? ⟨w.heap.size + 1 + 1, 0, none⟩ = some (.int .i64 (iuses f reg)) := one_cell h1
    have hb1 : Below w.heap.size w w1 := hwW.trans (hw1.to_below (fun k hk => by rw [hk]; omega) hsz2)
    clear hcall h1 hw1
    go_wp2
    go_ret
    exact ⟨rfl, hb1⟩
  · exact h1.elim
end Go.Proofs.Ytaljdbmmjgmbbaa
