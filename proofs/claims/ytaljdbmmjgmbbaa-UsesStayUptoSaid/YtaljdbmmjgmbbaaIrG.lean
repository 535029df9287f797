/- ir.Size. No condition. -/
import Derived.Test.YtaljdbmmjgmbbaaIrE
import Derived.Test.YtaljdbmmjgmbbaaIrF
namespace Go.Proofs.Ytaljdbmmjgmbbaa
open Go.RowKit

theorem flat_take_succ {bs : List (List Ins)} {k : Nat} {x : List Ins} (h : bs[k]? = some x) : (bs.take (k + 1)).flatten.length = (bs.take k).flatten.length + x.length := by
  rw [take_snoc h, List.flatten_append, List.length_append]
  simp only [List.flatten_cons, List.flatten_nil, List.append_nil]
theorem flat_take_le (bs : List (List Ins)) (k : Nat) : (bs.take k).flatten.length ≤ bs.flatten.length := by
  have h : (bs.take k).flatten ++ (bs.drop k).flatten = bs.flatten := by rw [← List.flatten_append, List.take_append_drop]
  rw [← h, List.length_append]
  omega

set_option maxHeartbeats 400000 in
theorem size_any (f : Fun) (c1 c2 : Value) (w : World) (B : Nat) (hB : B ≤ w.heap.size) (hp : RInts.rep w B [c1] f.params) (hb : RBlks.rep w B [c2] f.blocks) (hsz : f.blocks.flatten.length ≤ 1000000000000) :
    Calls Try.prog 33 #[f.v c1 c2] w fun e w' => e = .returned (.int .i64 (f.blocks.flatten.length : Int)) ∧ Below w.heap.size w w' := by
  obtain ⟨A1, k1, h1, hm1, -⟩ := Rp.slice1_open hp
  obtain ⟨A2, k2, h2, hm2, gb⟩ := Rp.slice1_open (RBlks.later hb (Below.refl _ _) hB)
  cases h1; cases h2
  replace gb := hide gb
  clear hp hb
  go_enter Try.func33, Try.ntmps33
  go_wp2
  obtain ⟨W, hW, hwW, hWs, hx⟩ := boxes1 w #[.string f.name, .slice A1 f.params.length k1, .int .i64 f.ret, .slice A2 f.blocks.length k2] 25
  rw [hW]
  clear hW hx
  have hsz2 : w.heap.size ≤ W.heap.size := by omega
  replace hWs := hide hWs
  go_loopw [3, 9] (fun n i wr => ∃ (k m : Nat), k ≤ f.blocks.length ∧ i = .int .i64 k ∧ n = .int .i64 m ∧ Hid (m = (f.blocks.take k).flatten.length) ∧ Below W.heap.size W wr) (fun _ i _ => f.blocks.length - (intOf i).toNat)
  case atStart => exact ⟨0, 0, Nat.zero_le _, rfl, rfl, hide (by simp), Below.refl _ _⟩
  case round =>
    obtain ⟨k, m, hk, rfl, rfl, hm, hbel⟩ := hrel
    by_cases hlt : k < f.blocks.length
    · obtain ⟨b1, o1, rfl, he1⟩ := gb.out (by omega)
      obtain ⟨x, hx⟩ := get_ex hlt
      obtain ⟨d1, hr1, hd1⟩ := he1 k x hx.out
      obtain ⟨A3, c3, h3, hm3, -⟩ := Rp.slice_open hr1
      cases h3
      have hd1' : ∀ w', Below W.heap.size W w' → w'.cell? ⟨b1, o1 + k, none⟩ = some (.slice A3 x.length c3) := fun w' h => hd1 w' (hwW.trans (h.mono hsz2))
      clear hd1 hr1 he1
      have hmx : m + x.length ≤ 1000000000000 := by
        have h1 := flat_take_succ hx.out
        have h2 := flat_take_le f.blocks (k + 1)
        have h3 := hm.out
        omega
      have hm2' : Hid (m + x.length = (f.blocks.take (k + 1)).flatten.length) := hide (by rw [flat_take_succ hx.out, hm.out])
      go_wp2
      go_roundw
      case rel => exact ⟨k + 1, m + x.length, hlt, by go_num, by go_num, hm2', hbel.alloc hbel.size _⟩
      case measure => simp [intOf]; omega
    · have hfin : Hid (m = f.blocks.flatten.length) := hide (by rw [hm.out, List.take_of_length_le (by omega)])
      go_wp2
      go_ret
      exact ⟨ret_int (by rw [hfin.out]), hwW.trans (hbel.mono hsz2)⟩

end Go.Proofs.Ytaljdbmmjgmbbaa
