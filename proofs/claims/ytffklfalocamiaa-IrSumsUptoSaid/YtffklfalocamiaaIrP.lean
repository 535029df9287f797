/- latheref02.names, Uses. No condition. -/
import Derived.Test.YtffklfalocamiaaIrN
namespace Go.Proofs.Ytffklfalocamiaa
open Go.RowKit

/-- an instruction's cells in a world, with its operands' slice opened -/
theorem ins_open {w : World} {B : Nat} {x : Ins} {c d : Value} (h : RIns.rep w B [.int .i64 x.op, .int .i64 x.reg, .int .i64 x.ty, .int .i64 x.num, .int .i64 x.flags, c, d] x) : ROpds.rep w B [c] x.args ∧ RInts.rep w B [d] x.to := by
  obtain ⟨c', d', e, ha, hto, _⟩ := h
  cases e
  exact ⟨ha, hto⟩

set_option maxHeartbeats 800000 in
theorem names_any (x : Ins) (r : Int) (c d : Value) (w : World) (B : Nat) (hB : B ≤ w.heap.size) (h : RIns.rep w B [.int .i64 x.op, .int .i64 x.reg, .int .i64 x.ty, .int .i64 x.num, .int .i64 x.flags, c, d] x) :
    Calls Try.prog 80 #[x.v c d, .int .i64 r] w fun e w' => e = .returned (.bool (names x r)) ∧ Below w.heap.size w w' := by
  obtain ⟨ha, hto⟩ := ins_open h
  obtain ⟨A1, k1, h1, hm1, ga⟩ := Rp.slice_open (ROpds.later ha (Below.refl _ _) hB)
  obtain ⟨A2, k2, h2, hm2, -⟩ := Rp.slice1_open hto
  cases h1; cases h2
  replace ga := hide ga
  clear h ha hto
  obtain ⟨W, hW, hwW, hWs, hx⟩ := boxes1 w #[.int .i64 x.op, .int .i64 x.reg, .int .i64 x.ty, .int .i64 x.num, .int .i64 x.flags, .slice A1 x.args.length k1, .slice A2 x.to.length k2] 70
  have x1 := hx 1 _ rfl
  have x5 := hx 5 _ rfl
  clear hx
  have hws : w.heap.size ≤ W.heap.size := by omega
  replace hWs := hide hWs
  have hself := Below.refl W.heap.size W
  cases hr : (x.reg == r) with
  | true =>
    go_enter Try.func80, Try.ntmps80
    go_wp2
    go_ret
    exact ⟨ret_bool (by simp [names, hr]), hwW⟩
  | false =>
  have hr' := hide hr
  go_enter Try.func80, Try.ntmps80
  go_wp2
  clear hW hr
  go_loop [5] (fun i => ∃ k : Nat, k ≤ x.args.length ∧ i = .int .i64 k ∧ Hid ((x.args.take k).any (fun v => usesReg v r) = false)) (fun i => x.args.length - (intOf i).toNat)
  case atStart => exact ⟨0, Nat.zero_le _, rfl, hide rfl⟩
  case round =>
    obtain ⟨k, hk, rfl, hall⟩ := hrel
    by_cases hlt : k < x.args.length
    · obtain ⟨b1, o1, rfl, he1⟩ := ga.out (by omega)
      obtain ⟨v, hv⟩ := get_ex hlt
      obtain ⟨_, _, ⟨rfl, _⟩, hc⟩ := he1 k v hv.out
      obtain ⟨p0, p1, p2⟩ := (hc.later hwW hws).three
      clear he1 hc
      cases hk1 : (v.kind == 1) with
      | false =>
        have hu : Hid (usesReg v r = false) := hide (by simp [usesReg, hk1])
        go_wp2
        go_round
        case rel => exact ⟨k + 1, hlt, by go_num, hide (by rw [any_take hv.out, hall.out, hu.out]; rfl)⟩
        case measure => simp [intOf]; omega
      | true =>
        cases hk2 : (v.num == r) with
        | false =>
          have hu : Hid (usesReg v r = false) := hide (by simp [usesReg, hk2])
          go_wp2
          go_round
          case rel => exact ⟨k + 1, hlt, by go_num, hide (by rw [any_take hv.out, hall.out, hu.out]; rfl)⟩
          case measure => simp [intOf]; omega
        | true =>
          have hn : Hid (names x r = true) := hide (by
            have hu : usesReg v r = true := by simp [usesReg, hk1, hk2]
            simp only [names, Bool.or_eq_true, List.any_eq_true]
            exact .inr ⟨v, List.mem_of_getElem? hv.out, hu⟩)
          go_wp2
          go_ret
          exact ⟨ret_bool (by rw [hn.out]), hwW⟩
    · have hn : Hid (names x r = false) := hide (by
        have := hall.out
        rw [List.take_of_length_le (by omega)] at this
        simp only [names, hr'.out, this, Bool.or_false])
      go_wp2
      go_ret
      exact ⟨ret_bool (by rw [hn.out]), hwW⟩

set_option maxHeartbeats 1600000 in
theorem ruses_any (f : Fun) (reg : Int) (c1 c2 : Value) (w : World) (B : Nat) (hB : B ≤ w.heap.size) (hp : RInts.rep w B [c1] f.params) (hb : RBlks.rep w B [c2] f.blocks) (hsz : partsL f.blocks.flatten ≤ 1000000000000) :
    Calls Try.prog 39 #[f.v c1 c2, .int .i64 reg] w fun e w' => e = .returned (.int .i64 (iuses f reg)) ∧ Below w.heap.size w w' := by
  obtain ⟨A1, k1, h1, hm1, -⟩ := Rp.slice1_at hp
  obtain ⟨A2, k2, h2, hm2, -⟩ := Rp.slice1_at hb
  cases h1; cases h2
  have hfl := length_le_partsL f.blocks.flatten
  have hal := argsL_le_partsL f.blocks.flatten
  replace hp := hide hp
  replace hb := hide hb
  obtain ⟨W, hW, hwW, hWs, hx⟩ := boxes1 w #[.string f.name, .slice A1 f.params.length k1, .int .i64 f.ret, .slice A2 f.blocks.length k2] 41
  have x0 := hx 0 _ rfl
  have x1 := hx 1 _ rfl
  have x2 := hx 2 _ rfl
  have x3 := hx 3 _ rfl
  clear hx
  have hself := Below.refl W.heap.size W
  have hws : w.heap.size ≤ W.heap.size := by omega
  replace hWs := hide hWs
  go_enter Try.func39, Try.ntmps39
  go_wp2_with fail
  clear hW
  refine (code_any f _ _ W w.heap.size hws (RInts.later hp.out (hwW.mono hB) hB) (RBlks.later hb.out (hwW.mono hB) hB) (by omega)).mono ?_
  rintro e V ⟨v1, v2, rfl, bV, hl, hpl⟩
  obtain ⟨A3, k3, h3, hm3, gl⟩ := Rp.slice_open hl
  obtain ⟨A4, k4, h4, -, -⟩ := Rp.slice_open hpl
  cases h3; cases h4
  replace gl := hide gl
  clear hl hpl
  obtain ⟨l, hll⟩ : ∃ l : List Ins, Hid (l = f.blocks.flatten) := ⟨_, hide rfl⟩
  rw [← hll.out] at gl hfl hal hsz hm3 ⊢
  go_wp2
  go_loopw [5, 8] (fun n i wr => ∃ (k m : Nat), k ≤ l.length ∧ i = .int .i64 k ∧ n = .int .i64 m ∧ Hid (m = usesL (l.take k) reg) ∧ Below V.heap.size V wr) (fun _ i _ => l.length - (intOf i).toNat)
  case atStart => exact ⟨0, 0, Nat.zero_le _, rfl, rfl, hide rfl, Below.refl _ _⟩
  case round =>
    obtain ⟨k, m, hk, rfl, rfl, hm, hbel⟩ := hrel
    by_cases hlt : k < l.length
    · obtain ⟨b1, o1, rfl, he1⟩ := gl.out (by omega)
      obtain ⟨ins, hins⟩ := get_ex hlt
      obtain ⟨_, _, ⟨a1, a2, rfl, ha, -, -⟩, hc⟩ := he1 k ins hins.out
      obtain ⟨q0, q1, q2, q3, q4, q5, q6⟩ := hc.seven
      obtain ⟨A5, k5, h5, hm5, ga⟩ := Rp.slice_open ha
      cases h5
      replace ga := hide ga
      clear he1 hc ha
      have hmb : Hid (m + ins.args.length ≤ 1000000000000) := hide (by
        have h1 := usesL_le (l.take k) reg
        have h2 : argsL (l.take (k + 1)) + argsL (l.drop (k + 1)) = argsL l := by rw [← argsL_append, List.take_append_drop]
        rw [take_snoc hins.out, argsL_append] at h2
        have h3 : argsL [ins] = ins.args.length := by simp [argsL]
        have h4 := hm.out
        omega)
      have hmb' := hmb.out
      go_wp2
      go_loopw [5, 9] (fun n i wr => ∃ (j c : Nat), j ≤ ins.args.length ∧ i = .int .i64 j ∧ n = .int .i64 c ∧ Hid (c = m + usesIn (ins.args.take j) reg) ∧ Below V.heap.size V wr) (fun _ i _ => ins.args.length - (intOf i).toNat)
      case atStart => exact ⟨0, m, Nat.zero_le _, rfl, rfl, hide rfl, hbel⟩
      case round =>
        clear hbel
        obtain ⟨j, c, hj, rfl, rfl, hcn, hbel⟩ := hrel
        have hle := usesIn_take_le ins.args reg j
        have hcb : c ≤ 1000000000000 := by have := hcn.out; omega
        by_cases hlt2 : j < ins.args.length
        · obtain ⟨b2, o2, rfl, he2⟩ := ga.out (by omega)
          obtain ⟨v, hv⟩ := get_ex hlt2
          obtain ⟨_, _, ⟨rfl, _⟩, hc⟩ := he2 j v hv.out
          obtain ⟨p0, p1, p2⟩ := hc.three
          clear he2 hc
          cases hk1 : (v.kind == 1) with
          | false =>
            have hu : Hid (usesIn (ins.args.take (j + 1)) reg = usesIn (ins.args.take j) reg) := hide (by rw [usesIn_take _ _ _ hv.out, if_neg (by simp at hk1; simp [hk1]), Nat.add_zero])
            go_wp2
            go_roundw
            case rel => exact ⟨j + 1, c, hlt2, by go_num, rfl, hide (by rw [hu.out]; exact hcn.out), hbel⟩
            case measure => simp [intOf]; omega
          | true =>
            cases hk2 : (v.num == reg) with
            | false =>
              have hu : Hid (usesIn (ins.args.take (j + 1)) reg = usesIn (ins.args.take j) reg) := hide (by rw [usesIn_take _ _ _ hv.out, if_neg (by simp at hk2; simp [hk2]), Nat.add_zero])
              go_wp2
              go_roundw
              case rel => exact ⟨j + 1, c, hlt2, by go_num, rfl, hide (by rw [hu.out]; exact hcn.out), hbel⟩
              case measure => simp [intOf]; omega
            | true =>
              have hu : Hid (usesIn (ins.args.take (j + 1)) reg = usesIn (ins.args.take j) reg + 1) := hide (by rw [usesIn_take _ _ _ hv.out, if_pos (by simp at hk1 hk2; exact ⟨hk1, hk2⟩)])
              go_wp2
              go_roundw
              case rel => exact ⟨j + 1, c + 1, hlt2, by go_num, by go_num, hide (by rw [hu.out, hcn.out]; omega), hbel⟩
              case measure => simp [intOf]; omega
        · have hc2 : Hid (c = usesL (l.take (k + 1)) reg) := hide (by rw [hcn.out, take_snoc hins.out, usesL_snoc, List.take_of_length_le (by omega), hm.out])
          go_wp2
          go_roundw
          case rel => exact ⟨k + 1, c, hlt, by go_num, rfl, hc2, hbel⟩
          case measure => simp [intOf]; omega
    · have hfin : Hid (m = iuses f reg) := hide (by rw [hm.out, List.take_of_length_le (by omega), hll.out]; rfl)
      go_wp2
      go_ret
      exact ⟨ret_int (by rw [hfin.out]), hwW.trans ((bV.mono hws).trans (hbel.mono (Nat.le_trans hws bV.size)))⟩
end Go.Proofs.Ytffklfalocamiaa
