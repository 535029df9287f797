/- ir.Fresh's closure. No condition. -/
import Derived.Test.YtaljdbmmjgmbbaaIrC
import Derived.Test.YtaljdbmmjgmbbaaMaps
namespace Go.Proofs.Ytaljdbmmjgmbbaa
open Go.RowKit

set_option maxHeartbeats 800000 in
theorem fresh_step (i j : Nat) (ins : Ins) (q : Int → Bool) (n b o V M : Nat) (es : List Value) (w : World) (B : Nat) (hB : B ≤ w.heap.size) (hMB : B ≤ M) (hVM : V ≠ M) (hV : V < w.heap.size)
    (hb : b < B) (hi : RIns.rep w B es ins) (hat : At w b o es) (hv : w.cell? ⟨V, 0, none⟩ = some (.map (some M))) (hm : MSet w M n q) (hn : n + 1 + ins.args.length ≤ 1099511627776) :
    Calls Try.prog 93 #[.agg #[.int .i64 0, .int .i64 i, .int .i64 j], .pointer (some ⟨b, o, none⟩), .pointer (some ⟨V, 0, none⟩)] w fun e w' =>
      e = .returned (.bool true) ∧ Only (Is M) w.heap.size w w' ∧ MSet w' M (n + 1 + ins.args.length) (fun r => q r || names ins r) := by
  obtain ⟨d1, d2, rfl, ha, _, _, hwr, _⟩ := hi
  obtain ⟨A1, k1, h1, hm1, ga⟩ := Rp.slice_at ha
  cases h1
  have hS : ∀ k, Is M k → B ≤ k := fun k hk => by rw [hk]; exact hMB
  have hM := hm.lt
  replace ga := hide ga
  replace hS := hide hS
  replace hm := hide hm
  replace hv := hide hv
  replace hwr := hide hwr
  obtain ⟨W, hW, hwW, hWs, _⟩ := boxes1 w #[.int .i64 0, .int .i64 i, .int .i64 j] 58
  have hsz : w.heap.size ≤ W.heap.size := by omega
  have hmW : MSet W M n q := hm.out.of_heap (hwW.block M hM)
  have hoc : OCells (Is M) W.heap.size W b o _ := fun j u hu w' hw => (hat.ocells hS.out hb hB) j u hu w' ((Only.of_below hwW).trans (hw.mono hsz))
  have x1 := hoc.at_ 1 rfl
  have x5 := hoc.at_ 5 rfl
  have hvc : ∀ w', Only (Is M) W.heap.size W w' → w'.cell? ⟨V, 0, none⟩ = some (.map (some M)) := fun w' h =>
    (h.cell (p := ⟨V, 0, none⟩) (by show V < _; omega) (by show ¬ V = M; omega)).trans ((hwW.cell (p := ⟨V, 0, none⟩) (by show V < _; omega)).trans hv.out)
  obtain ⟨w1, hrun, hm1', hg1⟩ := MSet.store (w := W.drew) (hmW.of_heap rfl) (by unfold maxLen; omega) hwr.out
  have hself := (Only.refl (Is M) W.heap.size W).drew
  have hb1 : Only (Is M) W.heap.size W w1 := hself.trans hg1
  replace hm1' := hide hm1'
  replace hmW := hide hmW
  clear hoc hat ha hg1
  replace hWs := hide hWs
  go_enter Try.func93, Try.ntmps93
  go_wp2_with fail
  clear hW
  go_region_held3 (fun w' => Only (Is M) W.heap.size W w') (first | exact hself | exact hb1) (fail)
  clear hrun x1 hself
  go_wp2
  go_loopw [18] (fun i wr => ∃ k : Nat, k ≤ ins.args.length ∧ i = .int .i64 k ∧ Only (Is M) W.heap.size W wr ∧ Hid (MSet wr M (n + 1 + k) (fun r => (q r || ins.reg == r) || (ins.args.take k).any fun v => usesReg v r))) (fun i _ => ins.args.length - (intOf i).toNat)
  case atStart => exact ⟨0, Nat.zero_le _, rfl, hb1, hide (hm1'.out.congr (fun r => by simp))⟩
  case round =>
    obtain ⟨k, hk, rfl, hbel, hms⟩ := hrel
    by_cases hlt : k < ins.args.length
    · obtain ⟨b1, o1, rfl, hbb, he1⟩ := ga.out (by omega)
      obtain ⟨v, hv1⟩ := get_ex hlt
      obtain ⟨_, _, ⟨rfl, _, hwv⟩, hat⟩ := he1 k v hv1.out
      obtain ⟨p0, p1, p2⟩ := (OCells.three (hat.ocells hS.out hbb hB))
      have q0 : ∀ w', Only (Is M) W.heap.size W w' → w'.cell? ⟨b1, o1 + k * 3, none⟩ = some (.int .i64 v.kind) := fun w' h => p0 w' ((Only.of_below hwW).trans (h.mono (by omega)))
      have q1 : ∀ w', Only (Is M) W.heap.size W w' → w'.cell? ⟨b1, o1 + k * 3 + 1, none⟩ = some (.int .i64 v.num) := fun w' h => p1 w' ((Only.of_below hwW).trans (h.mono (by omega)))
      have q2 : ∀ w', Only (Is M) W.heap.size W w' → w'.cell? ⟨b1, o1 + k * 3 + 2, none⟩ = some (.int .u64 v.bits) := fun w' h => p2 w' ((Only.of_below hwW).trans (h.mono (by omega)))
      clear p0 p1 p2 he1 hat
      have hal : ∀ obj, Only (Is M) W.heap.size W (wr.alloc obj) := fun obj => hbel.alloc hbel.size obj
      have hms2 := hms.out.alloc (.cells #[.int .i64 v.kind, .int .i64 v.num, .int .u64 v.bits] 28)
      obtain ⟨w2, hrun, hm2, hg2⟩ := MSet.store hms2 (by unfold maxLen; omega) hwv
      replace hms2 := hide hms2
      replace hm2 := hide hm2
      replace hwv := hide hwv
      have hb2 : Only (Is M) W.heap.size W w2 := (hal _).trans (hg2.mono (by have := hbel.size; simp; omega))
      clear hg2
      cases hk1 : (v.kind == 1) with
      | false =>
        have hu : Hid (∀ r, usesReg v r = false) := hide (fun r => by simp [usesReg, hk1])
        replace hk1 := hide hk1
        have hk1' := hk1.out
        clear hrun
        go_wp2
        go_roundw
        case rel => exact ⟨k + 1, hlt, by go_num, hal _, hide ((hms2.out.mono (by omega)).congr (fun r => by rw [any_take hv1.out, hu.out, Bool.or_false]))⟩
        case measure => simp [intOf]; omega
      | true =>
        have hu : Hid (∀ r, usesReg v r = (v.num == r)) := hide (fun r => by simp [usesReg, hk1])
        go_wp2
        go_roundw
        case rel => exact ⟨k + 1, hlt, by go_num, hb2, hide (hm2.out.congr (fun r => by rw [any_take hv1.out, hu.out, Bool.or_assoc]))⟩
        case measure => simp [intOf]; omega
    · go_wp2
      go_ret
      exact ⟨rfl, (Only.of_below hwW).trans (hbel.mono (by omega)), (hms.out.mono (by omega)).congr (fun r => by rw [List.take_of_length_le (by omega), names, Bool.or_assoc])⟩
end Go.Proofs.Ytaljdbmmjgmbbaa
