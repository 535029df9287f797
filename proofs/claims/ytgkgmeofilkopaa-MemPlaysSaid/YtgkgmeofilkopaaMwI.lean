/- Layer 9: Memory.Store, walked over any memory. No condition but numbers within their kinds. -/
import Derived.Test.YtgkgmeofilkopaaMwF
import Derived.Test.YtgkgmeofilkopaaMwH
import Derived.Test.YtgkgmeofilkopaaMmE
namespace Go.Proofs.Ytgkgmeofilkopaa
open Go.RowKit
set_option linter.unusedSimpArgs false
set_option linter.unusedVariables false

theorem info_wide : (Try.prog.info? 54).map (·.size) = some 5 := by kernel_rfl
def StorePost (g : Nat) (F : Nat → Prop) (bs : MemS) (t : Int) (v a : Val) (W : World) (e : Ending) (w' : World) : Prop :=
  e = .returned (.bool (storeS bs t v a).2) ∧ MemIs w' g F (storeS bs t v a).1 ∧ Upd F W w'
set_option maxHeartbeats 3200000 in
theorem store_any (g : Nat) (F : Nat → Prop) (bs : MemS) (t : Int) (v a : Val) (w : World) (h : MemIs w g F bs) (hv : 0 ≤ v.bits ∧ v.bits ≤ 18446744073709551615) :
    Calls Try.prog 49 #[.pointer (some ⟨g, 0, none⟩), .int .i64 t, vv v, vv a] w (StorePost g F bs t v a w) := by
  obtain ⟨W, hW, hwW, hWs, q1, q2⟩ := boxes2 w #[.int .i64 v.kind, .int .u64 v.bits, .int .i64 v.block, .int .i64 v.off] #[.int .i64 a.kind, .int .u64 a.bits, .int .i64 a.block, .int .i64 a.off] 47 47
  have v0 := q1 0 _ rfl
  have v1 := q1 1 _ rfl
  have v2 := q1 2 _ rfl
  have v3 := q1 3 _ rfl
  clear q1 q2
  have hM := hide (h.later hwW)
  have hS := hide (span_any g F bs t a W hM.out)
  have hP := hide (fun W' => pack_any t v W' hv)
  have hws : w.heap.size ≤ W.heap.size := by omega
  replace hWs := hide hWs
  have hwW' := hide hwW
  clear hwW
  replace hW := hide hW
  replace h := hide h
  go_enter Try.func49, Try.ntmps49
  go_wp2_with fail
  rw [hW.out]
  clear hW
  refine hS.out.mono ?_
  intro e w1 hp
  unfold SpanPost at hp
  cases hsp : spanS bs t a with
  | none =>
    rw [hsp] at hp
    have e0 : Hid (storeS bs t v a = (bs, false)) := hide (by unfold storeS; rw [hsp])
    obtain ⟨rfl, hb1⟩ := hp
    replace hb1 := hide hb1
    clear hsp
    go_wp2
    go_ret
    unfold StorePost
    rw [e0.out]
    exact ⟨rfl, hM.out.later hb1.out, Upd.of_below (hwW'.out.trans (hb1.out.mono hws))⟩
  | some lo =>
    obtain ⟨l, o⟩ := lo
    rw [hsp] at hp
    obtain ⟨⟨q, x, p1, ⟨p2, pF, pA⟩, rfl, p3, p4, rfl⟩, hb1⟩ := hp
    have e0 : Hid (storeS bs t v a = (bs.set a.block.toNat (some (layB l o (packS t v))), true)) := hide (by unfold storeS; rw [hsp])
    replace p1 := hide p1
    replace p2 := hide p2
    replace p3 := hide p3
    replace p4 := hide p4
    replace pF := hide pF
    replace pA := hide pA
    clear hsp
    go_wp2_with fail
    refine (hP.out _).mono ?_
    rintro e w2 ⟨Q, rfl, hrow, hQ, hb2⟩
    have hb3 := hide (hb1.trans (hb2.mono hb1.size))
    replace hb1 := hide hb1
    replace hb2 := hide hb2
    obtain ⟨s1, s2, q', hq', hrq⟩ := p3.out
    cases hq'
    have hrq2 := hide (Row.below hrq hb3.out hrq.lt)
    replace hrow := hide hrow
    replace hrq := hide hrq
    replace hQ := hide hQ
    replace s1 := hide s1
    obtain ⟨n, hn⟩ : ∃ n, Hid (n = (countS t).toNat) := ⟨_, hide rfl⟩
    have hpl : Hid ((packS t v).length = n) := hide (by rw [hn.out]; exact packS_len t v)
    have hfit : Hid (o + (packS t v).length ≤ l.length) := hide (by rw [hpl.out, hn.out]; exact p4.out)
    rw [← hn.out]
    go_wp2_with (refine wpList_copy_wide rfl (.tmp 19) (.tmp 22) 48 48 rfl 54 Try.underlying48 5 info_wide q (o * 5) n (l.length - o) ⟨Q, 0, none⟩ n n rfl rfl ((packS t v).flatMap bc) ?c1 ?c2 ?c3 (bc_one _) ?_)
    case c1 => rw [flat_len, hpl.out]; show n * 5 = min n n * 5; rw [Nat.min_self]
    case c2 => exact Row.src hrow.out
    case c3 => exact hrq2.out.there_at hfit.out
    have hl2 := hide (hrq2.out.lay hfit.out)
    have hfar : Hid (∀ i, i < W.heap.size → i ≠ q → (w2.setCells q (o * 5) ((packS t v).flatMap bc)).heap[i]? = W.heap[i]?) := hide (fun i hi hne => (heap_setCells_far hne _ _ _).trans (hb3.out.block i hi))
    have hsz : Hid (W.heap.size ≤ (w2.setCells q (o * 5) ((packS t v).flatMap bc)).heap.size) := hide (by rw [size_setCells]; exact hb3.out.size)
    have hst := hide (still_setCells q ((packS t v).flatMap bc) (o * 5) w2)
    obtain ⟨w4, hw4⟩ : ∃ w4, w4 = w2.setCells q (o * 5) ((packS t v).flatMap bc) := ⟨_, rfl⟩
    rw [← hw4] at hl2 hfar hsz hst ⊢
    clear hw4
    go_wp2
    go_ret
    unfold StorePost
    rw [e0.out]
    refine ⟨rfl, MemIs.put hM.out p1.out p3.out pA.out hl2.out (layB_len hfit.out) (okB_lay s1.out (okB_pack t v)) hfar.out hsz.out, ?_⟩
    have hbb := hwW'.out
    refine ⟨(hst.out.1.trans hb3.out.os).trans hbb.os, (hst.out.2.1.trans hb3.out.tape).trans hbb.tape, (hst.out.2.2.trans hb3.out.output).trans hbb.output, Nat.le_trans hws hsz.out, fun k hk hF => (hfar.out k (by omega) (fun e => hF (e ▸ pF.out))).trans (hbb.block k hk)⟩
end Go.Proofs.Ytgkgmeofilkopaa
