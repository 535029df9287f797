/- latheref19.phis: the document's rows of the phis. No condition but sizes. | latheref19.lay: the document's accesses without what they stand on. No condition but sizes. | latheref19.stands: what stands ahead of a place. No condition but sizes. -/
import Derived.Test.YteeclobpajalmaaMsC
import Derived.Test.YteeclobpajalmaaFrF
import Derived.Test.YteeclobpajalmaaLoD
import Derived.Test.YteeclobpajalmaaMsJ
namespace Go.Proofs.Yteeclobpajalmaa
open Go.RowKit
set_option linter.unusedSimpArgs false
set_option linter.unusedVariables false

/-- the numbers below k of which p holds -/
def fwL (p : Nat → Bool) : Nat → List Int
  | 0 => []
  | k + 1 => fwL p k ++ (if p k = true then [(k : Int)] else [])
theorem fwL_mem {p : Nat → Bool} {x : Int} : ∀ {k : Nat}, x ∈ fwL p k ↔ ∃ b : Nat, x = b ∧ b < k ∧ p b = true
  | 0 => Iff.intro (fun h => by cases h) (fun ⟨b, _, h, _⟩ => absurd h (Nat.not_lt_zero b))
  | k + 1 => by
    show x ∈ fwL p k ++ _ ↔ _
    rw [List.mem_append, fwL_mem]
    constructor
    · rintro (⟨b, h1, h2, h3⟩ | h)
      · exact ⟨b, h1, by omega, h3⟩
      · split at h
        · rename_i hp
          exact ⟨k, List.mem_singleton.1 h, Nat.lt_succ_self _, hp⟩
        · cases h
    · rintro ⟨b, h1, h2, h3⟩
      rcases Nat.lt_succ_iff_lt_or_eq.1 h2 with h | h
      · exact .inl ⟨b, h1, h, h3⟩
      · subst h
        refine .inr ?_
        rw [if_pos h3, h1]
        exact List.mem_singleton.2 rfl
theorem fwL_len {p : Nat → Bool} : ∀ k, (fwL p k).length ≤ k
  | 0 => Nat.le_refl _
  | k + 1 => by
    show (fwL p k ++ _).length ≤ _
    rw [List.length_append]
    have := fwL_len (p := p) k
    split <;> simp <;> omega
def RPhisPost (S : Nat → Bool) (q : Nat → Nat → Bool) (n : Nat) (w : World) (e : Ending) (w' : World) : Prop :=
  ∃ v l, e = .returned v ∧ OwnI w' w.heap.size v l ∧ (∀ t : Nat, (t : Int) ∈ l ↔ PhiIn S q t) ∧ l.length ≤ n ∧ Below w.heap.size w w'
set_option maxRecDepth 100000 in
set_option maxHeartbeats 12800000 in
theorem rphis_any (f : Fun) (c1 c2 : Value) (w : World) (B : Nat) (hB : B ≤ w.heap.size) (hf : RFun.rep w B [.string f.name, c1, .int .i64 f.ret, c2] f) (hs : Small f) :
    Calls Try.prog 66 #[f.v c1 c2] w (RPhisPost (startB f.blocks (orderF f.blocks)) (frB (succsF f.blocks) (orderF f.blocks)) f.blocks.length w) := by
  obtain ⟨hp, hb⟩ := fun_open (RFun.later hf (Below.refl _ _) hB)
  obtain ⟨A1, k1, h1, -, -⟩ := Rp.slice1_open hp
  obtain ⟨A2, k2, h2, hm2, -⟩ := Rp.slice1_open hb
  cases h1; cases h2
  clear hb
  obtain ⟨-, hb⟩ := fun_open (RFun.later hf (Below.refl _ _) hB)
  obtain ⟨A2', k2', h2', -, gb⟩ := Rp.slice1_open hb
  cases h2'
  clear hp hb
  replace gb := hide gb
  obtain ⟨n, hn⟩ : ∃ n, Hid (n = f.blocks.length) := ⟨_, hide rfl⟩
  have hnle : n ≤ 2000000 := by rw [hn.out]; exact hs.blocks
  obtain ⟨O, hO⟩ : ∃ O, Hid (O = orderF f.blocks) := ⟨_, hide rfl⟩
  obtain ⟨sc, hsc⟩ : ∃ sc, Hid (sc = succsF f.blocks) := ⟨_, hide rfl⟩
  obtain ⟨R, hR⟩ : ∃ R, Hid (R = reachF f.blocks) := ⟨_, hide rfl⟩
  obtain ⟨P, hP⟩ : ∃ P, Hid (P = predsL sc n) := ⟨_, hide rfl⟩
  have hPl : P.length = n := by rw [hP.out, predsL_len]
  have hRl : R.length = n := by rw [hR.out, hn.out, reach_len]
  have hsok : Hid (∀ b, SuccOk n (sc b)) := hide (fun b => by rw [hsc.out, hn.out]; exact succsF_ok _ _)
  have hok : Hid (OrderOk n sc O) := hide (by rw [hO.out, hn.out, hsc.out]; exact order_ok _)
  have hol : O.length ≤ n := by rw [hO.out, hn.out]; exact order_len _
  have hRat : Hid (∀ k : Nat, k < n → R[k]? = some (decide ((k : Int) ∈ O))) := hide (fun k hk => by rw [hR.out, hO.out]; exact reach_at _ _ (by rw [← hn.out]; exact hk))
  rw [← hn.out, ← hO.out, ← hsc.out]
  rw [← hn.out] at hf hm2
  obtain ⟨W, hW, hwW, hWs, hx⟩ := boxes1 w #[.string f.name, .slice A1 f.params.length k1, .int .i64 f.ret, .slice A2 n k2] 25
  have q0 : ∀ w', Below W.heap.size W w' → w'.cell? ⟨w.heap.size, 0, none⟩ = some (.string f.name) := hx 0 _ rfl
  have q1 : ∀ w', Below W.heap.size W w' → w'.cell? ⟨w.heap.size, 1, none⟩ = some (.slice A1 f.params.length k1) := hx 1 _ rfl
  have q2 : ∀ w', Below W.heap.size W w' → w'.cell? ⟨w.heap.size, 2, none⟩ = some (.int .i64 f.ret) := hx 2 _ rfl
  have q3 : ∀ w', Below W.heap.size W w' → w'.cell? ⟨w.heap.size, 3, none⟩ = some (.slice A2 n k2) := hx 3 _ rfl
  clear hx
  have hws : w.heap.size ≤ W.heap.size := by omega
  replace hWs := hide hWs
  have hself := Below.refl W.heap.size W
  have hF : Hid (∀ w', Below W.heap.size W w' → RFun.rep w' w'.heap.size [.string f.name, .slice A1 f.params.length k1, .int .i64 f.ret, .slice A2 n k2] f) := hide (fun w' h => RFun.later hf ((hwW.trans (h.mono hws)).mono hB) (Nat.le_trans hB (hwW.trans (h.mono hws)).size))
  have cRR : Hid (∀ w', Below W.heap.size W w' → Calls Try.prog 40 #[f.v (.slice A1 f.params.length k1) (.slice A2 n k2)] w' (ReachPost n R w')) := hide (fun w' h => by
    have := rreach_any f (.slice A1 f.params.length k1) (.slice A2 n k2) w' w'.heap.size (Nat.le_refl _) (hF.out w' h) hs
    rwa [← hn.out, ← hR.out] at this)
  have cFr : Hid (∀ w', Below W.heap.size W w' → Calls Try.prog 96 #[f.v (.slice A1 f.params.length k1) (.slice A2 n k2)] w' (FrontPost sc O n w')) := hide (fun w' h => by
    have := rfront_any f (.slice A1 f.params.length k1) (.slice A2 n k2) w' w'.heap.size (Nat.le_refl _) (hF.out w' h) hs
    rwa [← hn.out, ← hO.out, ← hsc.out] at this)
  have hzb : Hid (∀ x, x ∈ f.blocks → x.length ≤ 2000000) := hide (fun x hx => (hs.code x hx).1)
  replace hs := hide hs
  replace hf := hide hf
  replace hwW := hide hwW
  obtain ⟨i0, hi0, hz0, hz1, hz2⟩ := cinfo_parts cinfo_int
  replace hi0 := hide hi0
  replace hz0 := hide hz0
  replace hz1 := hide hz1
  replace hz2 := hide hz2
  obtain ⟨qf, hqf⟩ : ∃ qf, Hid (qf = frB sc O) := ⟨_, hide rfl⟩
  obtain ⟨S, hS⟩ : ∃ S, Hid (S = startB f.blocks O) := ⟨_, hide rfl⟩
  have hqn : Hid (∀ b t, qf b t = true → t < n) := hide (fun b t hb => by
    rw [hqf.out] at hb
    have := (hok.out.bound t (fr_out hok.out (frB_iff.1 hb))).2
    omega)
  rw [← hqf.out, ← hS.out]
  replace hW := hide hW
  go_enter Try.func66, Try.ntmps66
  go_upto_region 1 with (fail)
  rw [hW.out]
  clear hW
  go_wp2_with (fail)
  refine (cRR.out _ hself).mono ?_
  rintro e X0 ⟨gr, rfl, hrr, hb0⟩
  go_wp2_with (fail)
  refine (cFr.out _ hb0).mono ?_
  rintro e X1 ⟨gf, csf, rfl, hL1, hb9⟩
  have hb1 := hb0.trans (hb9.mono hb0.size)
  rw [← hqf.out] at hL1
  have rfr := hide (rows_reads hL1 qL_len)
  have hrd : Hid (∀ k : Nat, k < n → ∀ w', Below X1.heap.size X1 w' → w'.cell? ⟨gr, k, none⟩ = some (.bool (decide ((k : Int) ∈ O)))) := hide (fun k hk w' h => by
    have h9 := hb9.trans (h.mono hb9.size)
    exact OwnB.cell (row_kept hrr fun q hq => h9.block q (row_lt hrr hq).2.1) (hRat.out k hk) hk)
  have hWX : Hid (∀ w', Below X1.heap.size X1 w' → Below W.heap.size W w') := hide (fun w' h => hb1.trans (h.mono hb1.size))
  have hwX : Hid (∀ w', Below X1.heap.size X1 w' → Below w.heap.size w w') := hide (fun w' h => hwW.out.trans ((hWX.out w' h).mono hws))
  have hwXs : Hid (w.heap.size ≤ X1.heap.size) := hide (Nat.le_trans hws hb1.size)
  have p3 : ∀ w', Below X1.heap.size X1 w' → w'.cell? ⟨w.heap.size, 3, none⟩ = some (.slice A2 n k2) := fun w' h => q3 w' (hWX.out w' h)
  have hself1 := Below.refl X1.heap.size X1
  clear hL1 hb0 hb1 hb9 hrr cFr cRR q0 q1 q2 q3 hself hF
  have hst : Hid (OwnI X1 X1.heap.size (.slice none 0 0) (fwL S 0)) := hide OwnI.nil_
  go_wp2
  go_loopw [5, 6] (fun s5 s6 wr => ∃ (b : Nat) (A : Option Addr) (C : Nat) (F : List Int), s5 = .slice A F.length C ∧ s6 = .int .i64 b ∧ b ≤ n ∧ Hid (F = fwL S b) ∧ Hid (OwnI wr X1.heap.size (.slice A F.length C) F) ∧ Below X1.heap.size X1 wr) (fun _ s6 _ => n - (intOf s6).toNat)
  case atStart => exact ⟨0, none, 0, [], rfl, rfl, Nat.zero_le _, hide rfl, hst, hself1⟩
  case round =>
    clear hst hself1
    rename World => V
    obtain ⟨b, Ar, kr, F, rfl, rfl, hb9, hF, hrow, hbel⟩ := hrel
    have hVs := hbel.size
    have p3V := p3 V hbel
    by_cases hlt : b < n
    · have hki : (b : Int) < (n : Int) := by omega
      obtain ⟨x, hx⟩ := get_ex (l := f.blocks) (k := b) (by rw [← hn.out]; exact hlt)
      have hxl : x.length ≤ 2000000 := hzb.out x (List.mem_of_getElem? hx.out)
      obtain ⟨b1, o1, rfl, he1⟩ := gb.out (by rw [← hn.out]; omega)
      obtain ⟨d1, hr1, hd1⟩ := he1 b x hx.out
      obtain ⟨A3, c3, h3, hm3', ga3⟩ := Rp.slice_open hr1
      cases h3
      replace ga3 := hide ga3
      have hwV := hwX.out V hbel
      have hd1' := hd1 V hwV
      have rr := hrd.out b hlt V hbel
      clear hd1 hr1 he1
      have hFl : F.length ≤ 2000000 := by rw [hF.out]; have := fwL_len (p := S) b; omega
      go_wp2
      go_loopw [7, 8] (fun s7 s8 wr => ∃ (i : Nat) (sm : Bool), s7 = .bool sm ∧ s8 = .int .i64 i ∧ i ≤ x.length ∧ Hid (sm = ((b : Int) == 0 || (x.take i).any fun j => chgB j.op)) ∧ wr = V) (fun _ s8 _ => x.length - (intOf s8).toNat)
      case atStart => exact ⟨0, _, rfl, rfl, Nat.zero_le _, hide (by simp), rfl⟩
      case round =>
        obtain ⟨i, sm, rfl, rfl, hi, hsm, hw9⟩ := hrel
        subst hw9
        rename World => V
        by_cases hlti : i < x.length
        · have hii : (i : Int) < (x.length : Int) := by omega
          obtain ⟨b3, o3, rfl, he3⟩ := ga3.out (by omega)
          obtain ⟨ins, hins⟩ := get_ex (l := x) (k := i) hlti
          obtain ⟨_, _, ⟨a1, a2, rfl, ha, hto, -, hokr, -⟩, hc⟩ := he3 i ins hins.out
          obtain ⟨e0, -⟩ := hc.seven
          have e0 := e0 V hwV
          clear he3 ha hto hc hokr
          have hnx : Hid ((sm || chgB ins.op) = ((b : Int) == 0 || (x.take (i + 1)).any fun j => chgB j.op)) := hide (by
            rw [hsm.out, List.take_add_one, hins.out, List.any_append]
            simp [Bool.or_assoc])
          go_wp2_with (fail)
          refine (rchanges_any ins.op _).mono ?_
          rintro e w9 ⟨rfl, hw9⟩
          subst hw9
          cases sm with
          | true =>
            go_wp2
            go_roundw
            case rel => exact ⟨i + 1, true, rfl, by go_num, hlti, hnx, trivial⟩
            case measure => simp [intOf]; omega
          | false =>
            go_wp2
            go_roundw
            case rel => exact ⟨i + 1, chgB ins.op, rfl, by go_num, hlti, hnx, trivial⟩
            case measure => simp [intOf]; omega
        · have hin : i = x.length := by omega
          have hSb : Hid (S b = (decide ((b : Int) ∈ O) && sm)) := hide (by
            rw [hS.out, hsm.out, hin, List.take_length]
            unfold startB chgL
            rw [List.getD_eq_getElem?_getD, hx.out]
            have e : (b == 0) = ((b : Int) == 0) := by
              rw [Bool.eq_iff_iff, beq_iff_eq, beq_iff_eq]
              omega
            rw [e]
            rfl)
          have hstep : Hid (F ++ (if S b = true then [(b : Int)] else []) = fwL S (b + 1)) := hide (by rw [hF.out]; rfl)
          have hbI : Hid (I64 b) := hide (i64_mk (by omega) (by omega))
          have hno : Hid (S b = false → F = fwL S (b + 1)) := hide (fun h => by rw [← hstep.out, h]; simp)
          cases sm with
          | false =>
            have hnx := hide (hno.out (by rw [hSb.out, Bool.and_false]))
            go_wp2
            go_roundw
            case rel => exact ⟨b + 1, Ar, kr, F, rfl, by go_num, hlt, hnx, hrow, hbel⟩
            case measure => simp [intOf]; omega
          | true =>
            by_cases hbO : (b : Int) ∈ O
            · rw [decide_eq_true hbO] at rr
              have hnx : Hid (F ++ [(b : Int)] = fwL S (b + 1)) := hide (by rw [← hstep.out, hSb.out, decide_eq_true hbO]; rfl)
              replace hbO := hide hbO
              go_wp2_with (first
                | (at_builtin
                   refine wpList_append_own _ rfl (.tmp 62) (.tmp 64) _ rfl X1.heap.size 3 i0 _ 1 8 Try.underlying22 hi0.out hz0.out hz1.out hz2.out rfl (by omega) (.slice Ar F.length kr) _ _ rfl (hrow.out.row.alloc _) ⟨V.heap.size, 0, none⟩ 1 1 [.int .i64 b] rfl rfl ?c1 ?c2 ?c3 ?c4 ?c5 ?_
                   case c1 => exact World.news_of_block (cs := #[.int .i64 b]) (t := 3) (fr := (0, 0)) (heap_alloc_new V _)
                   case c2 => simp [Value.oneCell']
                   case c3 => unfold maxLen; omega
                   case c4 => omega
                   case c5 => first | (simp; omega) | simp | omega
                   intro v1 w1 hown1 hg1 _
                   have hbw1 : Below X1.heap.size X1 w1 := (hbel.alloc hVs _).grown hg1 (by simp; omega) (fun k hk => (row_lt hrow.out.row hk).1)
                   obtain ⟨A8, C8, hv8⟩ := row_form (OwnI.snoc hrow.out.ok hbI.out hown1).row
                   have hL := hide (OwnI.snoc hrow.out.ok hbI.out hown1)
                   subst hv8
                   replace hown1 := hide hown1
                   replace hg1 := hide hg1))
              go_roundw
              case rel => exact ⟨b + 1, A8, C8, F ++ [(b : Int)], by simp, by go_num, hlt, hnx, hL, hbw1⟩
              case measure => simp [intOf]; omega
            · rw [decide_eq_false hbO] at rr
              have hnx := hide (hno.out (by rw [hSb.out, decide_eq_false hbO]; rfl))
              replace hbO := hide hbO
              go_wp2
              go_roundw
              case rel => exact ⟨b + 1, Ar, kr, F, rfl, by go_num, hlt, hnx, hrow, hbel⟩
              case measure => simp [intOf]; omega
    · obtain rfl : n = b := by omega
      rename World => U
      obtain ⟨AF, CF, eF, rF⟩ := int_reads hrow.out
      cases eF
      have hUX : Hid (∀ w', Below U.heap.size U w' → Below X1.heap.size X1 w') := hide (fun w' h => hbel.trans (h.mono hVs))
      have hFm : Hid (∀ x, x ∈ F → ∃ b : Nat, x = b ∧ b < n ∧ S b = true) := hide (fun x hx => by rw [hF.out] at hx; exact fwL_mem.1 hx)
      have hSn : Hid (∀ b : Nat, S b = true → (b : Int) ∈ F) := hide (fun b hb => by
        rw [hF.out]
        refine fwL_mem.2 ⟨b, rfl, ?_, hb⟩
        rw [hS.out] at hb
        unfold startB at hb
        have := (hok.out.bound b (of_decide_eq_true (Bool.and_eq_true_iff.1 hb).1)).2
        omega)
      obtain ⟨m, hm⟩ : ∃ m, Hid (m = F.length) := ⟨_, hide rfl⟩
      have hmn : m ≤ n := by rw [hm.out, hF.out]; exact fwL_len _
      rw [← hm.out] at rF ⊢
      replace rF := hide rF
      have hst : Hid (OwnI U U.heap.size (.slice none 0 0) []) := hide OwnI.nil_
      have hri : Hid (RpI S qf n F [] 0) := hide rp_start
      have hselfU := Below.refl U.heap.size U
      clear hrow hbel hVs
      go_wp2
      go_loopg [10, 11] (2 * n + 1) (fun g s10 s11 wr => ∃ (A : Option Addr) (C : Nat) (l : List Int) (more : Bool), s10 = .slice A l.length C ∧ s11 = .bool more ∧ Hid (g = 2 * (n - l.length) + (if more = true then 1 else 0)) ∧ Hid (OwnI wr U.heap.size (.slice A l.length C) l) ∧ Hid (RpI S qf n F l 0) ∧ Hid (more = false → RpI S qf n F l (F.length + l.length)) ∧ Below U.heap.size U wr)
      case atStart => exact ⟨none, 0, [], true, rfl, rfl, hide (by simp), hst, hri, hide (fun h => by cases h), hselfU⟩
      case round =>
        clear hst hri hselfU
        rename World => V
        obtain ⟨Al, Cl, l0, more, rfl, rfl, hg, hrow, hri, hfin, hbel⟩ := hrel
        cases more with
        | false =>
          have hend := hide (rp_done (hfin.out rfl) hSn.out hqn.out)
          go_wp2
          go_ret
          exact ⟨_, l0, rfl, hrow.out.mono (Nat.le_trans hwXs.out (hUX.out U (Below.refl _ _)).size), hend.out, rp_len hri.out, hwX.out V (hUX.out V hbel)⟩
        | true =>
          have hl0 : l0.length ≤ n := rp_len hri.out
          go_wp2
          go_loopg [10, 11, 12] (m + n) (fun g s10 s11 s12 wr => ∃ (i : Nat) (A : Option Addr) (C : Nat) (l : List Int) (more : Bool), s10 = .slice A l.length C ∧ s11 = .bool more ∧ s12 = .int .i64 i ∧ Hid (g + i = m + n) ∧ i ≤ m + l.length ∧ Hid (OwnI wr U.heap.size (.slice A l.length C) l) ∧ Hid (RpI S qf n F l i) ∧ Hid (l0.length ≤ l.length ∧ (more = true → l0.length < l.length) ∧ (more = false → l = l0)) ∧ Below U.heap.size U wr)
          case atStart => exact ⟨0, Al, Cl, l0, false, rfl, rfl, rfl, hide rfl, Nat.zero_le _, hrow, hri, hide ⟨Nat.le_refl _, (fun h => by cases h), fun _ => rfl⟩, hbel⟩
          case round =>
            clear hrow hri hfin hbel
            rename World => V1
            obtain ⟨i, A, C, l, more, rfl, rfl, rfl, hgi, hi, hrow, hri, hm3, hbel⟩ := hrel
            have hVs := hbel.size
            have hll : l.length ≤ n := rp_len hri.out
            by_cases hlti : i < m + l.length
            · have hii : (i : Int) < (m : Int) + (l.length : Int) := by omega
              obtain ⟨x0, hx0⟩ := get_ex (l := F ++ l) (k := i) (by rw [List.length_append, ← hm.out]; exact hlti)
              obtain ⟨b, e, hbn, hsrc⟩ := rp_src hFm.out hri.out hx0.out
              subst e
              have hR0 : Hid (RpR S qf n F l0 l i b 0 more) := hide ⟨hri.out, hx0.out, hsrc, (fun t h => by simp at h), hm3.out.1, hm3.out.2.1, hm3.out.2.2⟩
              obtain ⟨A7, C7, hrowb, hel⟩ := rfr.out b _ (qL_at hbn)
              obtain ⟨row, hrw⟩ : ∃ row, Hid (row = qAt qf b n) := ⟨_, hide rfl⟩
              rw [← hrw.out] at hel hrowb
              have hrl : row.length ≤ n := by rw [hrw.out]; exact qAt_len
              replace hel := hide hel
              replace hrowb := hide hrowb
              replace hrow := hide hrow.out
              obtain ⟨g', hg'⟩ : ∃ g', Hid (g' + (i + 1) = m + n) := ⟨m + n - (i + 1), hide (by omega)⟩
              have hgg : Hid (g' < gk) := hide (by have := hg'.out; have := hgi.out; omega)
              go_upto_if 79 with (fail)
              go_cut [13] (fun s wx => s = .int .i64 b ∧ wx = V1)
              case first =>
                by_cases him : i < m
                · have b1 : (i : Int) < (m : Int) := by omega
                  obtain ⟨g5, hg5, r5⟩ := rF.out (by omega)
                  subst hg5
                  have v5 := r5 i b (by have h := hx0.out; rwa [List.getElem?_append_left (by rw [← hm.out]; exact him)] at h) V1 hbel
                  clear r5
                  go_wp2
                  go_meet
                  exact ⟨rfl, rfl⟩
                · have b1 : ¬ (i : Int) < (m : Int) := by omega
                  obtain ⟨A5, C5, e5, r5⟩ := int_reads hrow.out
                  cases e5
                  obtain ⟨j, hj⟩ : ∃ j : Nat, Hid (i = m + j) := ⟨i - m, hide (by omega)⟩
                  have hjl : j < l.length := by have := hj.out; omega
                  have hjj : (j : Int) < (l.length : Int) := by omega
                  have c1 : (i : Int) - (m : Int) = (j : Int) := by have := hj.out; omega
                  obtain ⟨g5, hg5, r6⟩ := r5 (by omega)
                  subst hg5
                  have v5 := r6 j b (by have h := hx0.out; rw [List.getElem?_append_right (by rw [← hm.out]; omega), ← hm.out, hj.out, Nat.add_sub_cancel_left] at h; exact h) V1 (Below.refl _ _)
                  clear r5 r6
                  go_wp2
                  go_meet
                  exact ⟨rfl, rfl⟩
              case rest =>
                obtain ⟨rfl, hw9⟩ := hcut
                subst hw9
                rename World => V1
                have hbi : (b : Int) < (n : Int) := by omega
                clear hri hm3 hsrc hx0
                go_wp2
                go_loopw [10, 11, 14] (fun s10 s11 s14 wr => ∃ (k : Nat) (A : Option Addr) (C : Nat) (l : List Int) (more : Bool), s10 = .slice A l.length C ∧ s11 = .bool more ∧ s14 = .int .i64 k ∧ k ≤ row.length ∧ Hid (RpR S qf n F l0 l i b k more) ∧ Hid (OwnI wr U.heap.size (.slice A l.length C) l) ∧ Below U.heap.size U wr) (fun _ _ s14 _ => row.length - (intOf s14).toNat)
                case atStart => exact ⟨0, _, _, l, more, rfl, rfl, rfl, Nat.zero_le _, hR0, hrow, hbel⟩
                case round =>
                  clear hrow hbel hVs hR0 hi hlti hii hll
                  rename World => V2
                  obtain ⟨k, A, C, l, more, rfl, rfl, rfl, hk, hR, hrow, hbel⟩ := hrel
                  have hVs := hbel.size
                  have hll : l.length ≤ n := rp_len hR.out.inv
                  have hrow0 := hrowb.out V2 (hUX.out V2 hbel)
                  by_cases hltk : k < row.length
                  · have hkk : (k : Int) < (row.length : Int) := by omega
                    obtain ⟨t0, ht0⟩ := get_ex (l := row) (k := k) hltk
                    obtain ⟨t, e, htn, -⟩ := qAt_mem.1 (show t0 ∈ qAt qf b n by rw [← hrw.out]; exact List.mem_of_getElem? ht0.out)
                    subst e
                    have htq : Hid ((qAt qf b n)[k]? = some (t : Int)) := hide (by rw [← hrw.out]; exact ht0.out)
                    obtain ⟨g5, hg5, r5⟩ := hel.out (by omega)
                    subst hg5
                    have v5 := r5 k t ht0.out V2 (hUX.out V2 hbel)
                    clear r5
                    go_wp2_with (fail)
                    refine (has13_any A C l t V2 U.heap.size (by omega) hrow.out).mono ?_
                    rintro e w9 ⟨rfl, hw9⟩
                    subst hw9
                    rename World => V2
                    by_cases htl : (t : Int) ∈ l
                    · rw [decide_eq_true htl]
                      have hnx := hide (rp_known hR.out htq.out htl)
                      replace htl := hide htl
                      go_wp2
                      go_roundw
                      case rel => exact ⟨k + 1, A, C, l, more, rfl, rfl, by go_num, hltk, hnx, hrow, hbel⟩
                      case measure => simp [intOf]; omega
                    · rw [decide_eq_false htl]
                      have hnx := hide (rp_mark hR.out htq.out htl)
                      have hbI : Hid (I64 t) := hide (i64_mk (by omega) (by omega))
                      replace htl := hide htl
                      go_wp2_with (first
                        | (at_builtin
                           refine wpList_append_own _ rfl (.tmp 111) (.tmp 119) _ rfl U.heap.size 3 i0 _ 1 8 Try.underlying22 hi0.out hz0.out hz1.out hz2.out rfl (by omega) (.slice A l.length C) _ _ rfl (hrow.out.row.alloc _) ⟨V2.heap.size, 0, none⟩ 1 1 [.int .i64 t] rfl rfl ?c1 ?c2 ?c3 ?c4 ?c5 ?_
                           case c1 => exact World.news_of_block (cs := #[.int .i64 t]) (t := 3) (fr := (0, 0)) (heap_alloc_new V2 _)
                           case c2 => simp [Value.oneCell']
                           case c3 => unfold maxLen; omega
                           case c4 => omega
                           case c5 => first | (simp; omega) | simp | omega
                           intro v1 w1 hown1 hg1 _
                           have hbw1 : Below U.heap.size U w1 := (hbel.alloc hVs _).grown hg1 (by simp; omega) (fun k hk => (row_lt hrow.out.row hk).1)
                           obtain ⟨A8, C8, hv8⟩ := row_form (OwnI.snoc hrow.out.ok hbI.out hown1).row
                           have hL := hide (OwnI.snoc hrow.out.ok hbI.out hown1)
                           subst hv8
                           replace hown1 := hide hown1
                           replace hg1 := hide hg1))
                      go_roundw
                      case rel => exact ⟨k + 1, A8, C8, l ++ [(t : Int)], true, by simp, rfl, by go_num, hltk, hnx, hL, hbw1⟩
                      case measure => simp [intOf]; omega
                  · have hke : k = row.length := by omega
                    have hnx : Hid (RpI S qf n F l (i + 1)) := hide (rp_next (by have h := hR.out; rw [hke, hrw.out] at h; exact h))
                    have hm4 : Hid (l0.length ≤ l.length ∧ (more = true → l0.length < l.length) ∧ (more = false → l = l0)) := hide ⟨hR.out.len, hR.out.gain, hR.out.same⟩
                    have hcur := hR.out.cur
                    have hil : i + 1 ≤ m + l.length := by have h := (List.getElem?_eq_some_iff.1 hcur).1; rw [List.length_append, ← hm.out] at h; omega
                    replace hcur := hide hcur
                    replace hke := hide hke
                    go_wp2
                    go_roundg g'
                    case measure => exact hgg.out
                    case rel => exact ⟨i + 1, A, C, l, more, rfl, rfl, by go_num, hg', hil, hrow, hnx, hm4, hbel⟩
            · have hie : i = m + l.length := by omega
              have hfin2 : Hid (more = false → RpI S qf n F l (F.length + l.length)) := hide (fun _ => by
                have h := hri.out
                rw [hie, hm.out] at h
                exact h)
              obtain ⟨h1, h2, h3⟩ := hm3.out
              have hmz : Hid (2 * (n - l.length) + (if more = true then 1 else 0) < 2 * (n - l0.length) + 1) := hide (by
                cases more with
                | true => have := h2 rfl; rw [if_pos rfl]; omega
                | false => rw [h3 rfl, if_neg (by simp)]; omega)
              replace hie := hide hie
              clear h1 h2 h3
              go_wp2
              go_roundg (2 * (n - l.length) + (if more = true then 1 else 0))
              case measure => have h := hg.out; rw [if_pos trivial] at h; rw [h]; exact hmz.out
              case rel => exact ⟨A, C, l, more, rfl, rfl, hide rfl, hrow, hide (rp_again hri.out), hfin2, hbel⟩
end Go.Proofs.Yteeclobpajalmaa

namespace Go.Proofs.Yteeclobpajalmaa
open Go.RowKit
set_option linter.unusedSimpArgs false
set_option linter.unusedVariables false

/-- a row of accesses without rows of their own -/
def BareA (w : World) (B : Nat) (A : Option Addr) (C : Nat) (L : List Ac) : Prop := OwnAc w B B (.slice A L.length C) L (neA L)
theorem OwnAc.bareN {w w1 : World} {B m C C8 : Nat} {A A8 : Option Addr} {L : List Ac} {k b p : Int} {o : Obj} (hm : m = L.length) (h : BareA w B A C L)
    (hown : w1.ownsRow B 37 5 (.slice A8 (m + 1) C8) (m + 1) ((List.zipWith acC L (neA L)).flatten ++ [.int .i64 k, .int .i64 b, .int .i64 p, .slice none 0 0, .slice none 0 0])) (hg : (w.alloc o).grownBy w1 (Value.slice A m C).ownBlock) : BareA w1 B A8 C8 (L ++ [⟨k, b, p, [], []⟩]) := by
  subst hm
  have := OwnAc.bare (Bi := B) h hown hg
  unfold BareA
  rw [neA_snoc, List.length_append]
  exact this
theorem BareA.row {w : World} {B m C : Nat} {A : Option Addr} {L : List Ac} (hm : m = L.length) (h : BareA w B A C L) : w.ownsRow B 37 5 (.slice A m C) m (List.zipWith acC L (neA L)).flatten := by
  subst hm
  exact OwnAc.row h
def RLayPost (f : Fun) (H : Nat → Bool) (O : List Int) (n : Nat) (w : World) (e : Ending) (w' : World) : Prop :=
  ∃ A C, e = .returned (.slice A (if n = 0 then [] else laidA f.blocks H O n).length C) ∧ BareA w' w.heap.size A C (if n = 0 then [] else laidA f.blocks H O n) ∧ Below w.heap.size w w'
set_option maxRecDepth 100000 in
set_option maxHeartbeats 12800000 in
theorem rlay_any (f : Fun) (c1 c2 : Value) (w : World) (B : Nat) (hB : B ≤ w.heap.size) (hf : RFun.rep w B [.string f.name, c1, .int .i64 f.ret, c2] f) (hsz : funSz f ≤ 2000000) :
    Calls Try.prog 37 #[f.v c1 c2] w (RLayPost f (phiB (startB f.blocks (orderF f.blocks)) (frB (succsF f.blocks) (orderF f.blocks))) (orderF f.blocks) f.blocks.length w) := by
  have hs : Small f := small_of hsz
  have hLm : Hid (∀ H O k, k ≤ f.blocks.length → (laidA f.blocks H O k).length ≤ 4000001) := hide (fun H O k hk => laidA_small hsz hk)
  replace hsz := hide hsz
  obtain ⟨hp, hb⟩ := fun_open (RFun.later hf (Below.refl _ _) hB)
  obtain ⟨A1, k1, h1, -, -⟩ := Rp.slice1_open hp
  obtain ⟨A2, k2, h2, hm2, -⟩ := Rp.slice1_open hb
  cases h1; cases h2
  clear hb
  obtain ⟨-, hb⟩ := fun_open (RFun.later hf (Below.refl _ _) hB)
  obtain ⟨A2', k2', h2', -, gb⟩ := Rp.slice1_open hb
  cases h2'
  clear hp hb
  replace gb := hide gb
  obtain ⟨n, hn⟩ : ∃ n, Hid (n = f.blocks.length) := ⟨_, hide rfl⟩
  have hnle : n ≤ 2000000 := by rw [hn.out]; exact hs.blocks
  obtain ⟨O, hO⟩ : ∃ O, Hid (O = orderF f.blocks) := ⟨_, hide rfl⟩
  obtain ⟨sc, hsc⟩ : ∃ sc, Hid (sc = succsF f.blocks) := ⟨_, hide rfl⟩
  obtain ⟨R, hR⟩ : ∃ R, Hid (R = reachF f.blocks) := ⟨_, hide rfl⟩
  obtain ⟨P, hP⟩ : ∃ P, Hid (P = predsL sc n) := ⟨_, hide rfl⟩
  have hPl : P.length = n := by rw [hP.out, predsL_len]
  have hRl : R.length = n := by rw [hR.out, hn.out, reach_len]
  have hsok : Hid (∀ b, SuccOk n (sc b)) := hide (fun b => by rw [hsc.out, hn.out]; exact succsF_ok _ _)
  have hok : Hid (OrderOk n sc O) := hide (by rw [hO.out, hn.out, hsc.out]; exact order_ok _)
  have hol : O.length ≤ n := by rw [hO.out, hn.out]; exact order_len _
  have hRat : Hid (∀ k : Nat, k < n → R[k]? = some (decide ((k : Int) ∈ O))) := hide (fun k hk => by rw [hR.out, hO.out]; exact reach_at _ _ (by rw [← hn.out]; exact hk))
  rw [← hn.out, ← hO.out, ← hsc.out]
  rw [← hn.out] at hf hm2
  obtain ⟨W, hW, hwW, hWs, hx⟩ := boxes1 w #[.string f.name, .slice A1 f.params.length k1, .int .i64 f.ret, .slice A2 n k2] 25
  have q0 : ∀ w', Below W.heap.size W w' → w'.cell? ⟨w.heap.size, 0, none⟩ = some (.string f.name) := hx 0 _ rfl
  have q1 : ∀ w', Below W.heap.size W w' → w'.cell? ⟨w.heap.size, 1, none⟩ = some (.slice A1 f.params.length k1) := hx 1 _ rfl
  have q2 : ∀ w', Below W.heap.size W w' → w'.cell? ⟨w.heap.size, 2, none⟩ = some (.int .i64 f.ret) := hx 2 _ rfl
  have q3 : ∀ w', Below W.heap.size W w' → w'.cell? ⟨w.heap.size, 3, none⟩ = some (.slice A2 n k2) := hx 3 _ rfl
  clear hx
  have hws : w.heap.size ≤ W.heap.size := by omega
  replace hWs := hide hWs
  have hself := Below.refl W.heap.size W
  have hF : Hid (∀ w', Below W.heap.size W w' → RFun.rep w' w'.heap.size [.string f.name, .slice A1 f.params.length k1, .int .i64 f.ret, .slice A2 n k2] f) := hide (fun w' h => RFun.later hf ((hwW.trans (h.mono hws)).mono hB) (Nat.le_trans hB (hwW.trans (h.mono hws)).size))
  have cRR : Hid (∀ w', Below W.heap.size W w' → Calls Try.prog 40 #[f.v (.slice A1 f.params.length k1) (.slice A2 n k2)] w' (ReachPost n R w')) := hide (fun w' h => by
    have := rreach_any f (.slice A1 f.params.length k1) (.slice A2 n k2) w' w'.heap.size (Nat.le_refl _) (hF.out w' h) hs
    rwa [← hn.out, ← hR.out] at this)
  have cPh : Hid (∀ w', Below W.heap.size W w' → Calls Try.prog 66 #[f.v (.slice A1 f.params.length k1) (.slice A2 n k2)] w' (RPhisPost (startB f.blocks O) (frB sc O) n w')) := hide (fun w' h => by
    have := rphis_any f (.slice A1 f.params.length k1) (.slice A2 n k2) w' w'.heap.size (Nat.le_refl _) (hF.out w' h) hs
    rwa [← hn.out, ← hO.out, ← hsc.out] at this)
  have hzb : Hid (∀ x, x ∈ f.blocks → x.length ≤ 2000000) := hide (fun x hx => (hs.code x hx).1)
  replace hs := hide hs
  replace hf := hide hf
  replace hwW := hide hwW
  obtain ⟨m0, hm0, hm1, hm2', hm3⟩ := cinfo_parts cinfo_Access
  replace hm0 := hide hm0
  replace hm1 := hide hm1
  replace hm2' := hide hm2'
  replace hm3 := hide hm3
  obtain ⟨H, hH⟩ : ∃ H, Hid (H = phiB (startB f.blocks O) (frB sc O)) := ⟨_, hide rfl⟩
  rw [← hH.out]
  replace hW := hide hW
  go_enter Try.func37, Try.ntmps37
  go_upto_region 1 with (fail)
  rw [hW.out]
  clear hW
  by_cases hn0 : n = 0
  · have e0 : ((n : Int) == 0) = true := by rw [hn0]; rfl
    have hfin : Hid (RLayPost f H O n w (.returned (.slice none 0 0)) W) := hide (by
      unfold RLayPost
      rw [if_pos hn0]
      exact ⟨none, 0, rfl, OwnAc.nil_, hwW.out⟩)
    replace hn0 := hide hn0
    go_wp2
    go_ret
    exact hfin.out
  · have e0 : ((n : Int) == 0) = false := by rw [beq_eq_false_iff_ne]; omega
    go_wp2_with (fail)
    refine (cRR.out _ hself).mono ?_
    rintro e X0 ⟨gr, rfl, hrr, hb0⟩
    go_upto_region 5 with (fail)
    go_cut [3, 5] (fun s3 s5 X1 => ∃ (A : Option Addr) (C : Nat) (v : Value) (l : List Int), s3 = .slice A 0 C ∧ s5 = v ∧ OwnI X1 X0.heap.size v l ∧ (∀ t : Nat, (t : Int) ∈ l ↔ PhiIn (startB f.blocks O) (frB sc O) t) ∧ l.length ≤ n ∧ Below X0.heap.size X0 X1 ∧ BareA X1 X1.heap.size A C [])
    case first =>
      go_wp2_with (fail)
      refine (cPh.out _ hb0).mono ?_
      rintro e X1 ⟨v, l, rfl, hL1, hmem, hll, hb9⟩
      replace hL1 := hide hL1
      replace hmem := hide hmem
      go_wp2
      go_meet
      exact ⟨none, 0, v, l, rfl, rfl, hL1.out, hmem.out, hll, hb9, OwnAc.nil_⟩
    case rest =>
    obtain ⟨A, C, v, l, rfl, hv5, hL1, hmem, hll, hb9, hnil⟩ := hcut
    rename World => X1
    replace hnil := hide hnil
    have hb1 := hb0.trans (hb9.mono hb0.size)
    have hrd : Hid (∀ k : Nat, k < n → ∀ w', Below X1.heap.size X1 w' → w'.cell? ⟨gr, k, none⟩ = some (.bool (decide ((k : Int) ∈ O)))) := hide (fun k hk w' h => by
      have h9 := hb9.trans (h.mono hb9.size)
      exact OwnB.cell (row_kept hrr fun q hq => h9.block q (row_lt hrr hq).2.1) (hRat.out k hk) hk)
    have hHk : Hid (∀ k : Nat, decide ((k : Int) ∈ l) = H k) := hide (fun k => by
      rw [hH.out]
      by_cases hk : PhiIn (startB f.blocks O) (frB sc O) k
      · rw [phiB_iff.2 hk, decide_eq_true ((hmem k).2 hk)]
      · rw [phiB_no hk, decide_eq_false (fun h => hk ((hmem k).1 h))])
    obtain ⟨Ah, Ch, ehv⟩ := row_form hL1.row
    have ehv : v = _ := ehv
    subst ehv
    subst hv5
    have hlI : Hid (∀ w', Below X1.heap.size X1 w' → OwnI w' X0.heap.size (.slice Ah l.length Ch) l) := hide (fun w' h => hL1.kept fun q _ hq => h.block q hq)
    have hll : l.length ≤ 4000000 := by omega
    have hWX : Hid (∀ w', Below X1.heap.size X1 w' → Below W.heap.size W w') := hide (fun w' h => hb1.trans (h.mono hb1.size))
    have hwX : Hid (∀ w', Below X1.heap.size X1 w' → Below w.heap.size w w') := hide (fun w' h => hwW.out.trans ((hWX.out w' h).mono hws))
    have hwXs : Hid (w.heap.size ≤ X1.heap.size) := hide (Nat.le_trans hws hb1.size)
    have p3 : ∀ w', Below X1.heap.size X1 w' → w'.cell? ⟨w.heap.size, 3, none⟩ = some (.slice A2 n k2) := fun w' h => q3 w' (hWX.out w' h)
    have hself1 := Below.refl X1.heap.size X1
    replace hn0 := hide hn0
    clear hL1 hmem hb0 hb1 hb9 hrr cPh cRR q0 q1 q2 q3 hself hF
    have hrow2 : Hid (X1.ownsRow X1.heap.size 37 5 (.slice A 0 C) 0 (List.zipWith acC [] (neA [])).flatten) := hide (BareA.row rfl hnil.out)
    have hbel := hself1
    have hVs := hbel.size
    have hrow := hnil
    have hm : Hid (0 = ([] : List Ac).length) := hide rfl
    go_wp2_with (first
      | (at_builtin
         refine wpList_append_own _ rfl (.tmp 20) (.tmp 22) _ rfl X1.heap.size 37 m0 _ 5 72 Try.underlying29 hm0.out hm1.out hm2'.out hm3.out rfl (by omega) (.slice A 0 C) _ _ rfl (hrow2.out.alloc _) ⟨X1.heap.size, 0, none⟩ 1 1 [.int .i64 0, .int .i64 0, .int .i64 (-1), .slice none 0 0, .slice none 0 0] rfl rfl ?c1 ?c2 ?c3 ?c4 ?c5 ?_
         case c1 => exact World.news_of_block (cs := #[.int .i64 0, .int .i64 0, .int .i64 (-1), .slice none 0 0, .slice none 0 0]) (t := 37) (fr := (0, 0)) (heap_alloc_new X1 _)
         case c2 => simp [Value.oneCell']
         case c3 => unfold maxLen; omega
         case c4 => omega
         case c5 => first | (simp; omega) | simp | omega
         intro v1 w1 hown1 hg1 _
         have hbw1 : Below X1.heap.size X1 w1 := (hbel.alloc hVs _).grown hg1 (by simp <;> omega) (fun k hk => (row_lt hrow2.out hk).1)
         obtain ⟨A8, C8, hv8⟩ := row_form hown1
         subst hv8
         have hL := hide (OwnAc.bareN hm.out hrow.out hown1 hg1)
         replace hown1 := hide hown1
         replace hg1 := hide hg1))
    clear hnil hrow hrow2 hm hbel hVs
    have hL0 : Hid (BareA w1 X1.heap.size A8 C8 (laidA f.blocks H O 0)) := hide hL.out
    go_wp2
    go_loopg [3, 6] n (fun g s3 s6 wr => ∃ (k : Nat) (A : Option Addr) (C : Nat), s3 = .slice A (laidA f.blocks H O k).length C ∧ s6 = .int .i64 k ∧ Hid (g + k = n) ∧ Hid (BareA wr X1.heap.size A C (laidA f.blocks H O k)) ∧ Below X1.heap.size X1 wr)
    case atStart => exact ⟨0, A8, C8, rfl, rfl, hide rfl, hL0, hbw1⟩
    case round =>
      clear hL0 hbw1 hL hown1 hg1
      rename World => V
      obtain ⟨k, A, C, rfl, rfl, hg, hrow, hbel⟩ := hrel
      have hk : k ≤ n := by have := hg.out; omega
      have hVs := hbel.size
      have hLl : (laidA f.blocks H O k).length ≤ 4000001 := hLm.out H O k (by rw [← hn.out]; exact hk)
      have p3V := p3 V hbel
      by_cases hlt : k < n
      · have hki : (k : Int) < (n : Int) := by omega
        obtain ⟨g', hg'⟩ : ∃ g', Hid (g' + (k + 1) = n) := ⟨n - (k + 1), hide (by omega)⟩
        have hgg : Hid (g' < gk) := hide (by have := hg'.out; have := hg.out; omega)
        have r1 := hrd.out k hlt V hbel
        have hnl : Hid (laidA f.blocks H O (k + 1) = laidA f.blocks H O k ++ blkA f.blocks H O k) := hide rfl
        by_cases hko : (k : Int) ∈ O
        · rw [decide_eq_true hko] at r1
          obtain ⟨x, hx⟩ := get_ex (l := f.blocks) (k := k) (by rw [← hn.out]; exact hlt)
          have hbl := hide (blkA_in (H := H) hko hx.out)
          have hxl : x.length ≤ 2000000 := hzb.out x (List.mem_of_getElem? hx.out)
          replace hko := hide hko
          obtain ⟨hb, hhb⟩ : ∃ hb, Hid (H k = hb) := ⟨_, hide rfl⟩
          have hl9 : Hid ((laidA f.blocks H O (k + 1)).length ≤ 4000001) := hide (hLm.out H O (k + 1) (by rw [← hn.out]; exact hlt))
          have hall : Hid (laidA f.blocks H O k ++ phiA H k ++ codeA k x x.length = laidA f.blocks H O (k + 1)) := hide (by rw [hnl.out, hbl.out, List.append_assoc])
          go_wp2_with (fail)
          refine (has13_any Ah Ch l k V X0.heap.size hll (hlI.out V hbel)).mono ?_
          rintro e w9 ⟨rfl, hw9⟩
          subst hw9
          rw [hHk.out k, hhb.out]
          rename World => V
          go_upto_if 39 with (fail)
          go_cut [3] (fun s3 wx => ∃ (A : Option Addr) (C : Nat), s3 = .slice A (laidA f.blocks H O k ++ phiA H k).length C ∧ Hid (BareA wx X1.heap.size A C (laidA f.blocks H O k ++ phiA H k)) ∧ Below X1.heap.size X1 wx)
          case first =>
            cases hb with
            | false =>
              have hph : Hid (laidA f.blocks H O k ++ phiA H k = laidA f.blocks H O k) := hide (by unfold phiA; rw [if_neg (by rw [hhb.out]; simp)]; simp)
              go_wp2
              go_meet
              exact ⟨A, C, by rw [hph.out], by rw [hph.out]; exact hrow, hbel⟩
            | true =>
              have hph : Hid (phiA H k = [⟨3, k, -1, [], []⟩]) := hide (by unfold phiA; rw [if_pos hhb.out])
              obtain ⟨m, hm⟩ : ∃ m, Hid (m = (laidA f.blocks H O k).length) := ⟨_, hide rfl⟩
              have hrow2 := hide (BareA.row hm.out hrow.out)
              rw [← hm.out] at hLl ⊢
              go_wp2_with (first
                | (at_builtin
                   refine wpList_append_own _ rfl (.tmp 40) (.tmp 43) _ rfl X1.heap.size 37 m0 _ 5 72 Try.underlying29 hm0.out hm1.out hm2'.out hm3.out rfl (by omega) (.slice A m C) _ _ rfl (hrow2.out.alloc _) ⟨V.heap.size, 0, none⟩ 1 1 [.int .i64 3, .int .i64 k, .int .i64 (-1), .slice none 0 0, .slice none 0 0] rfl rfl ?c1 ?c2 ?c3 ?c4 ?c5 ?_
                   case c1 => exact World.news_of_block (cs := #[.int .i64 3, .int .i64 k, .int .i64 (-1), .slice none 0 0, .slice none 0 0]) (t := 37) (fr := (0, 0)) (heap_alloc_new V _)
                   case c2 => simp [Value.oneCell']
                   case c3 => unfold maxLen; omega
                   case c4 => omega
                   case c5 => first | (simp; omega) | simp | omega
                   intro v1 w1 hown1 hg1 _
                   have hbw1 : Below X1.heap.size X1 w1 := (hbel.alloc hVs _).grown hg1 (by simp <;> omega) (fun k hk => (row_lt hrow2.out hk).1)
                   obtain ⟨A8, C8, hv8⟩ := row_form hown1
                   subst hv8
                   have hL := hide (OwnAc.bareN hm.out hrow.out hown1 hg1)
                   replace hown1 := hide hown1
                   replace hg1 := hide hg1))
              go_meet
              exact ⟨A8, C8, by rw [hph.out, List.length_append, ← hm.out]; rfl, by rw [hph.out]; exact hL, hbw1⟩
          case rest =>
            obtain ⟨A9, C9, rfl, hrow9, hbel9⟩ := hcut
            clear hrow hbel hVs p3V r1 hLl
            rename World => V1
            have hrow0 : Hid (BareA V1 X1.heap.size A9 C9 (laidA f.blocks H O k ++ phiA H k ++ codeA k x 0)) := hide (by
              have e : laidA f.blocks H O k ++ phiA H k ++ codeA k x 0 = laidA f.blocks H O k ++ phiA H k := List.append_nil _
              rw [e]; exact hrow9.out)
            have hlen0 : Hid ((laidA f.blocks H O k ++ phiA H k).length = (laidA f.blocks H O k ++ phiA H k ++ codeA k x 0).length) := hide (by
              have e : laidA f.blocks H O k ++ phiA H k ++ codeA k x 0 = laidA f.blocks H O k ++ phiA H k := List.append_nil _
              rw [e])
            obtain ⟨b1, o1, rfl, he1⟩ := gb.out (by rw [← hn.out]; omega)
            obtain ⟨d1, hr1, hd1⟩ := he1 k x hx.out
            obtain ⟨A3, c3, h3, hm3', ga3⟩ := Rp.slice_open hr1
            cases h3
            replace ga3 := hide ga3
            have hd1' : ∀ w', Below X1.heap.size X1 w' → _ := fun w' h => hd1 w' (hwX.out w' h)
            clear hd1 hr1 he1 hrow9
            go_wp2
            go_loopg [3, 8] x.length (fun g s3 s8 wr => ∃ (i : Nat) (A : Option Addr) (C : Nat), s3 = .slice A (laidA f.blocks H O k ++ phiA H k ++ codeA k x i).length C ∧ s8 = .int .i64 i ∧ Hid (g + i = x.length) ∧ Hid (BareA wr X1.heap.size A C (laidA f.blocks H O k ++ phiA H k ++ codeA k x i)) ∧ Below X1.heap.size X1 wr)
            case atStart => exact ⟨0, A9, C9, by rw [hlen0.out], rfl, hide rfl, hrow0, hbel9⟩
            case round =>
              obtain ⟨gk0, hgk0⟩ : ∃ gk0, Hid (gk0 = gk) := ⟨_, hide rfl⟩
              clear hrow0 hlen0 hbel9
              rename World => V2
              obtain ⟨i, A, C, rfl, rfl, hgi, hrow, hbel⟩ := hrel
              have hi : i ≤ x.length := by have := hgi.out; omega
              have hVs := hbel.size
              have p3V := p3 V2 hbel
              have hd1V := hd1' V2 hbel
              by_cases hlti : i < x.length
              · have hii : (i : Int) < (x.length : Int) := by omega
                obtain ⟨g2, hg2⟩ : ∃ g2, Hid (g2 + (i + 1) = x.length) := ⟨x.length - (i + 1), hide (by omega)⟩
                have hgg2 : Hid (g2 < gk) := hide (by have := hg2.out; have := hgi.out; omega)
                obtain ⟨b3, o3, rfl, he3⟩ := ga3.out (by omega)
                obtain ⟨ins, hins⟩ := get_ex (l := x) (k := i) hlti
                obtain ⟨_, _, ⟨a1, a2, rfl, ha, hto, -, hokr, -⟩, hc⟩ := he3 i ins hins.out
                obtain ⟨e0', -⟩ := hc.seven
                have e0' := e0' V2 (hwX.out V2 hbel)
                clear he3 ha hto hc hokr
                have hst := hide (codeA_step (b := k) hins.out)
                obtain ⟨m, hm⟩ : ∃ m, Hid (m = (laidA f.blocks H O k ++ phiA H k ++ codeA k x i).length) := ⟨_, hide rfl⟩
                have hml : m ≤ 4000001 := by
                  have h1 := hl9.out
                  rw [← hall.out, List.length_append] at h1
                  rw [hm.out, List.length_append]
                  have h2 : (codeA k x i).length ≤ (codeA k x x.length).length := codeA_mono hi
                  omega
                have hrow2 := hide (BareA.row hm.out hrow.out)
                rw [← hm.out]
                obtain ⟨cb, hcb⟩ : ∃ cb, Hid (chgB ins.op = cb) := ⟨_, hide rfl⟩
                go_wp2_with (fail)
                refine (rchanges_any ins.op _).mono ?_
                rintro e w9 ⟨rfl, hw9⟩
                subst hw9
                rename World => V2
                rw [hcb.out]
                cases cb with
                | true =>
                  have hnx : Hid (laidA f.blocks H O k ++ phiA H k ++ codeA k x (i + 1) = (laidA f.blocks H O k ++ phiA H k ++ codeA k x i) ++ [⟨1, k, i, [], []⟩]) := hide (by rw [hst.out, accI_def hcb.out]; simp)
                  go_wp2_with (first
                    | (at_builtin
                       refine wpList_append_own _ rfl (.tmp 69) (.tmp 73) _ rfl X1.heap.size 37 m0 _ 5 72 Try.underlying29 hm0.out hm1.out hm2'.out hm3.out rfl (by omega) (.slice A m C) _ _ rfl (hrow2.out.alloc _) ⟨V2.heap.size, 0, none⟩ 1 1 [.int .i64 1, .int .i64 k, .int .i64 i, .slice none 0 0, .slice none 0 0] rfl rfl ?c1 ?c2 ?c3 ?c4 ?c5 ?_
                       case c1 => exact World.news_of_block (cs := #[.int .i64 1, .int .i64 k, .int .i64 i, .slice none 0 0, .slice none 0 0]) (t := 37) (fr := (0, 0)) (heap_alloc_new V2 _)
                       case c2 => simp [Value.oneCell']
                       case c3 => unfold maxLen; omega
                       case c4 => omega
                       case c5 => first | (simp; omega) | simp | omega
                       intro v1 w1 hown1 hg1 _
                       have hbw1 : Below X1.heap.size X1 w1 := (hbel.alloc hVs _).grown hg1 (by simp <;> omega) (fun k hk => (row_lt hrow2.out hk).1)
                       obtain ⟨A8, C8, hv8⟩ := row_form hown1
                       subst hv8
                       have hL := hide (OwnAc.bareN hm.out hrow.out hown1 hg1)
                       replace hown1 := hide hown1
                       replace hg1 := hide hg1))
                  go_roundg g2
                  case measure => exact hgg2.out
                  case rel => exact ⟨i + 1, A8, C8, by rw [hnx.out, List.length_append, ← hm.out]; rfl, by go_num, hg2, by rw [hnx.out]; exact hL, hbw1⟩
                | false =>
                  by_cases h27 : ins.op = 27
                  · have h27' : (ins.op == 27) = true := by rw [h27]; rfl
                    have hnx : Hid (laidA f.blocks H O k ++ phiA H k ++ codeA k x (i + 1) = (laidA f.blocks H O k ++ phiA H k ++ codeA k x i) ++ [⟨2, k, i, [], []⟩]) := hide (by rw [hst.out, accI_use hcb.out h27]; simp)
                    replace h27 := hide h27
                    go_wp2_with (first
                      | (at_builtin
                         refine wpList_append_own _ rfl (.tmp 77) (.tmp 81) _ rfl X1.heap.size 37 m0 _ 5 72 Try.underlying29 hm0.out hm1.out hm2'.out hm3.out rfl (by omega) (.slice A m C) _ _ rfl (hrow2.out.alloc _) ⟨V2.heap.size, 0, none⟩ 1 1 [.int .i64 2, .int .i64 k, .int .i64 i, .slice none 0 0, .slice none 0 0] rfl rfl ?c1 ?c2 ?c3 ?c4 ?c5 ?_
                         case c1 => exact World.news_of_block (cs := #[.int .i64 2, .int .i64 k, .int .i64 i, .slice none 0 0, .slice none 0 0]) (t := 37) (fr := (0, 0)) (heap_alloc_new V2 _)
                         case c2 => simp [Value.oneCell']
                         case c3 => unfold maxLen; omega
                         case c4 => omega
                         case c5 => first | (simp; omega) | simp | omega
                         intro v1 w1 hown1 hg1 _
                         have hbw1 : Below X1.heap.size X1 w1 := (hbel.alloc hVs _).grown hg1 (by simp <;> omega) (fun k hk => (row_lt hrow2.out hk).1)
                         obtain ⟨A8, C8, hv8⟩ := row_form hown1
                         subst hv8
                         have hL := hide (OwnAc.bareN hm.out hrow.out hown1 hg1)
                         replace hown1 := hide hown1
                         replace hg1 := hide hg1))
                    go_roundg g2
                    case measure => exact hgg2.out
                    case rel => exact ⟨i + 1, A8, C8, by rw [hnx.out, List.length_append, ← hm.out]; rfl, by go_num, hg2, by rw [hnx.out]; exact hL, hbw1⟩
                  · have h27' : (ins.op == 27) = false := by rw [beq_eq_false_iff_ne]; exact h27
                    have hnx : Hid (laidA f.blocks H O k ++ phiA H k ++ codeA k x (i + 1) = laidA f.blocks H O k ++ phiA H k ++ codeA k x i) := hide (by rw [hst.out, accI_no hcb.out h27, List.append_nil])
                    replace h27 := hide h27
                    go_wp2
                    go_roundg g2
                    case measure => exact hgg2.out
                    case rel => exact ⟨i + 1, A, C, by rw [hnx.out, ← hm.out], by go_num, hg2, by rw [hnx.out]; exact hrow, hbel⟩
              · obtain rfl : i = x.length := by omega
                rw [hall.out] at hrow ⊢
                go_wp2
                go_roundg g'
                case measure => have h1 := hgg.out; have h2 := hgk0.out; omega
                case rel => exact ⟨k + 1, A, C, rfl, by go_num, hg', hrow, hbel⟩
        · rw [decide_eq_false hko] at r1
          have hbl : Hid (laidA f.blocks H O (k + 1) = laidA f.blocks H O k) := hide (by rw [hnl.out, blkA_out hko, List.append_nil])
          replace hko := hide hko
          go_wp2
          go_roundg g'
          case measure => exact hgg.out
          case rel => exact ⟨k + 1, A, C, by rw [hbl.out], by go_num, hg', by rw [hbl.out]; exact hrow, hbel⟩
      · obtain rfl : k = n := by omega
        have hfin : Hid (RLayPost f H O k w (.returned (.slice A (laidA f.blocks H O k).length C)) V) := hide (by
          unfold RLayPost
          rw [if_neg hn0.out]
          exact ⟨A, C, rfl, (OwnAc.mono hrow.out hwXs.out).monoi hwXs.out, hwX.out V hbel⟩)
        go_wp2
        go_ret
        exact hfin.out
end Go.Proofs.Yteeclobpajalmaa

namespace Go.Proofs.Yteeclobpajalmaa
open Go.RowKit
set_option linter.unusedSimpArgs false
set_option linter.unusedVariables false

/-- the parts of a row of accesses that are never written -/
def RdA (w : World) (go : Nat) (L : List Ac) : Prop := go < w.heap.size ∧ ∀ (i : Nat) a, L[i]? = some a → w.cell? ⟨go, i * 5, none⟩ = some (.int .i64 a.kind) ∧ w.cell? ⟨go, i * 5 + 1, none⟩ = some (.int .i64 a.block) ∧ w.cell? ⟨go, i * 5 + 2, none⟩ = some (.int .i64 a.pos)
theorem RdA.below {w w' : World} {go : Nat} {L : List Ac} (h : RdA w go L) (hb : Below w.heap.size w w') : RdA w' go L :=
  ⟨Nat.lt_of_lt_of_le h.1 hb.size, fun i a ha => by
    obtain ⟨h1, h2, h3⟩ := h.2 i a ha
    exact ⟨(hb.cell (p := ⟨go, i * 5, none⟩) h.1).trans h1, (hb.cell (p := ⟨go, i * 5 + 1, none⟩) h.1).trans h2, (hb.cell (p := ⟨go, i * 5 + 2, none⟩) h.1).trans h3⟩⟩
theorem laidA_pos_lt {bs : List (List Ins)} {H : Nat → Bool} {o : List Int} {n i u : Nat} {a : Ac} (h : (laidA bs H o n)[i]? = some a) (hi : 0 < i) (hu : a.block = u) : a.pos < (bs.getD u []).length := by
  obtain ⟨b, h1, h2, h3⟩ := laidA_mem n h hi
  obtain ⟨h4, h5⟩ := blkA_mem h2
  rcases h5 with ⟨-, rfl⟩ | ⟨j, k, h6, -, rfl⟩
  · show (-1 : Int) < _
    omega
  · have e : (b : Int) = u := hu
    have e2 : b = u := by omega
    subst e2
    show (j : Int) < _
    omega
theorem bestF_range {L : List Ac} {b p : Int} : ∀ m, bestF L b p m = -1 ∨ ∃ i : Nat, bestF L b p m = i ∧ i < m
  | 0 => .inl rfl
  | m + 1 => by
    by_cases h : BestC L b p m
    · exact .inr ⟨m, bestF_hit h, Nat.lt_succ_self _⟩
    · rw [bestF_skip h]
      rcases bestF_range m with h1 | ⟨i, h1, h2⟩
      · exact .inl h1
      · exact .inr ⟨i, h1, by omega⟩
def StandsPost (z : Int) (w : World) (e : Ending) (w' : World) : Prop := e = .returned (.int .i64 z) ∧ Below w.heap.size w w'
set_option maxRecDepth 100000 in
set_option maxHeartbeats 12800000 in
theorem rstands_any (f : Fun) (c1 c2 : Value) (w : World) (B : Nat) (hB : B ≤ w.heap.size) (hf : RFun.rep w B [.string f.name, c1, .int .i64 f.ret, c2] f) (hs : Small f)
    (H : Nat → Bool) (L : List Ac) (hLe : L = laidA f.blocks H (orderF f.blocks) f.blocks.length) (hLn : L.length ≤ 4000001) (l : List Int) (hI : IdomOk (succsF f.blocks) (orderF f.blocks) f.blocks.length l) (go Co Bu : Nat) (u : Value) (hl : OwnI w Bu u l) (hrd : RdA w go L) (b : Nat) (p : Int) (hb : (b : Int) ∈ orderF f.blocks) :
    Calls Try.prog 41 #[f.v c1 c2, u, .slice (some ⟨go, 0, none⟩) L.length Co, .int .i64 b, .int .i64 p] w (StandsPost (stF L l (orderF f.blocks) b (bestF L b p L.length)) w) := by
  have hbO := hb
  clear hb
  obtain ⟨hp, hb⟩ := fun_open (RFun.later hf (Below.refl _ _) hB)
  obtain ⟨A1, k1, h1, -, -⟩ := Rp.slice1_open hp
  obtain ⟨A2, k2, h2, hm2, -⟩ := Rp.slice1_open hb
  cases h1; cases h2
  clear hb
  obtain ⟨-, hb⟩ := fun_open (RFun.later hf (Below.refl _ _) hB)
  obtain ⟨A2', k2', h2', -, gb⟩ := Rp.slice1_open hb
  cases h2'
  clear hp hb
  replace gb := hide gb
  obtain ⟨n, hn⟩ : ∃ n, Hid (n = f.blocks.length) := ⟨_, hide rfl⟩
  have hnle : n ≤ 2000000 := by rw [hn.out]; exact hs.blocks
  obtain ⟨O, hO⟩ : ∃ O, Hid (O = orderF f.blocks) := ⟨_, hide rfl⟩
  obtain ⟨sc, hsc⟩ : ∃ sc, Hid (sc = succsF f.blocks) := ⟨_, hide rfl⟩
  obtain ⟨R, hR⟩ : ∃ R, Hid (R = reachF f.blocks) := ⟨_, hide rfl⟩
  obtain ⟨P, hP⟩ : ∃ P, Hid (P = predsL sc n) := ⟨_, hide rfl⟩
  have hPl : P.length = n := by rw [hP.out, predsL_len]
  have hRl : R.length = n := by rw [hR.out, hn.out, reach_len]
  have hsok : Hid (∀ b, SuccOk n (sc b)) := hide (fun b => by rw [hsc.out, hn.out]; exact succsF_ok _ _)
  have hok : Hid (OrderOk n sc O) := hide (by rw [hO.out, hn.out, hsc.out]; exact order_ok _)
  have hol : O.length ≤ n := by rw [hO.out, hn.out]; exact order_len _
  have hRat : Hid (∀ k : Nat, k < n → R[k]? = some (decide ((k : Int) ∈ O))) := hide (fun k hk => by rw [hR.out, hO.out]; exact reach_at _ _ (by rw [← hn.out]; exact hk))
  rw [← hn.out, ← hO.out]
  rw [← hn.out] at hf hm2 hI
  obtain ⟨W, hW, hwW, hWs, hx⟩ := boxes1 w #[.string f.name, .slice A1 f.params.length k1, .int .i64 f.ret, .slice A2 n k2] 25
  have q0 : ∀ w', Below W.heap.size W w' → w'.cell? ⟨w.heap.size, 0, none⟩ = some (.string f.name) := hx 0 _ rfl
  have q1 : ∀ w', Below W.heap.size W w' → w'.cell? ⟨w.heap.size, 1, none⟩ = some (.slice A1 f.params.length k1) := hx 1 _ rfl
  have q2 : ∀ w', Below W.heap.size W w' → w'.cell? ⟨w.heap.size, 2, none⟩ = some (.int .i64 f.ret) := hx 2 _ rfl
  have q3 : ∀ w', Below W.heap.size W w' → w'.cell? ⟨w.heap.size, 3, none⟩ = some (.slice A2 n k2) := hx 3 _ rfl
  clear hx
  have hws : w.heap.size ≤ W.heap.size := by omega
  replace hWs := hide hWs
  have hself := Below.refl W.heap.size W
  have hF : Hid (∀ w', Below W.heap.size W w' → RFun.rep w' w'.heap.size [.string f.name, .slice A1 f.params.length k1, .int .i64 f.ret, .slice A2 n k2] f) := hide (fun w' h => RFun.later hf ((hwW.trans (h.mono hws)).mono hB) (Nat.le_trans hB (hwW.trans (h.mono hws)).size))
  have hzb : Hid (∀ x, x ∈ f.blocks → x.length ≤ 2000000) := hide (fun x hx => (hs.code x hx).1)
  replace hs := hide hs
  replace hf := hide hf
  replace hwW := hide hwW
  rw [← hO.out] at hI hbO hLe
  rw [← hsc.out] at hI
  obtain ⟨Au, Cu, rfl, hrl⟩ := int_reads hl
  have hI := hide hI
  have hlen := hI.out.len
  rw [hlen] at hrl ⊢
  have hrl : Hid (∀ (i : Nat) x, l[i]? = some x → ∃ g, Au = some ⟨g, 0, none⟩ ∧ W.cell? ⟨g, i, none⟩ = some (.int .i64 x)) := hide (fun i x hx => by
    have hil := (List.getElem?_eq_some_iff.1 hx).1
    obtain ⟨g, hg, hr⟩ := hrl (by omega)
    exact ⟨g, hg, hr i x hx W (hwW.out.mono (Nat.le_refl _))⟩)
  have hrA : Hid (∀ (i : Nat) a, L[i]? = some a → W.cell? ⟨go, i * 5, none⟩ = some (.int .i64 a.kind) ∧ W.cell? ⟨go, i * 5 + 1, none⟩ = some (.int .i64 a.block) ∧ W.cell? ⟨go, i * 5 + 2, none⟩ = some (.int .i64 a.pos)) := hide (hrd.below hwW.out).2
  have hpos : Hid (∀ (u : Nat) x, f.blocks[u]? = some x → bestF L u x.length L.length = lastD L u L.length) := hide (fun u x hx => by
    have h := best_last (L := L) (b := u) (p := x.length) (c := L.length) (fun i a ha hi hu => ⟨fun _ => (List.getElem?_eq_some_iff.1 ha).1, fun _ => by
      rw [hLe] at ha
      have := laidA_pos_lt ha hi hu
      rw [List.getD_eq_getElem?_getD, hx] at this
      exact this⟩) L.length
    rwa [Nat.min_self] at h)
  obtain ⟨N, hN⟩ : ∃ N, Hid (N = L.length) := ⟨_, hide rfl⟩
  rw [← hN.out] at hLn ⊢
  obtain ⟨z, hz⟩ : ∃ z, Hid (z = stF L l O b (bestF L b p L.length)) := ⟨_, hide rfl⟩
  rw [← hN.out] at hz
  rw [← hz.out]
  replace hlen := hide hlen
  replace hbO := hide hbO
  replace hW := hide hW
  have p3 := q3 W hself
  clear hLe hl hrd q0 q1 q2 q3 hself hF
  go_enter Try.func41, Try.ntmps41
  go_wp2
  rw [hW.out]
  clear hW
  go_loopg [3, 4, 10] (O.idxOf (b : Int) + 1) (fun g s3 s4 s10 wr => ∃ (b : Nat) (p : Int), s3 = .int .i64 b ∧ s4 = .int .i64 p ∧ Hid (g = O.idxOf (b : Int) + 1) ∧ Hid ((b : Int) ∈ O) ∧ Hid (z = stF L l O b (bestF L b p N)) ∧ wr = W)
  case atStart => exact ⟨b, p, rfl, rfl, hide rfl, hbO, hz, rfl⟩
  case round =>
    obtain ⟨gk0, hgk0⟩ : ∃ gk0, Hid (gk0 = gk) := ⟨_, hide rfl⟩
    clear hz hbO b p
    obtain ⟨b, p, rfl, rfl, hg, hbO, hz, hw9⟩ := hrel
    subst hw9
    rename World => V
    have hbn : b < n := by have := (hok.out.bound _ hbO.out).2; omega
    go_wp2
    go_loopw [11, 12] (fun s11 s12 wr => ∃ i : Nat, s11 = .int .i64 (bestF L b p i) ∧ s12 = .int .i64 i ∧ 1 ≤ i ∧ i ≤ N + 1 ∧ wr = V) (fun _ s12 _ => N + 1 - (intOf s12).toNat)
    case atStart =>
      refine ⟨1, ?_, rfl, Nat.le_refl _, by omega, rfl⟩
      have : bestF L b p 1 = -1 := by rw [bestF_skip fun h => by have := h.1; omega]; rfl
      rw [this]
    case round =>
      rename World => V
      obtain ⟨i, rfl, rfl, hi1, hi, hw9⟩ := hrel
      subst hw9
      rename World => V
      by_cases hlt : i < N
      · have hii : (i : Int) < (N : Int) := by omega
        obtain ⟨a, ha⟩ := get_ex (l := L) (k := i) (by rw [← hN.out]; exact hlt)
        obtain ⟨w0, w1, w2⟩ := hrA.out i a ha.out
        obtain ⟨y, hy⟩ : ∃ y, Hid (y = bestF L b p i) := ⟨_, hide rfl⟩
        rw [← hy.out]
        by_cases h1 : a.block = b
        · have d1 : (a.block == (b : Int)) = true := by rw [h1]; simp
          by_cases h2 : a.kind = 2
          · have d2 : (a.kind != 2) = false := by rw [h2]; rfl
            have hnx : Hid (bestF L b p (i + 1) = y) := hide (by rw [bestF_skip (fun ⟨_, c, hc, _, h5, _⟩ => by rw [ha.out] at hc; cases hc; exact h5 h2), hy.out])
            replace h1 := hide h1
            replace h2 := hide h2
            go_wp2
            go_roundw
            case rel => exact ⟨i + 1, by rw [hnx.out], by go_num, by omega, by omega, trivial⟩
            case measure => simp [intOf]; omega
          · have d2 : (a.kind != 2) = true := by simpa using h2
            by_cases h3 : a.pos < p
            · have hnx : Hid (bestF L b p (i + 1) = i) := hide (bestF_hit ⟨by omega, a, ha.out, h1, h2, h3⟩)
              have d3 : decide (a.pos < p) = true := decide_eq_true h3
              replace h1 := hide h1
              replace h2 := hide h2
              go_wp2
              go_roundw
              case rel => exact ⟨i + 1, by rw [hnx.out], by go_num, by omega, by omega, trivial⟩
              case measure => simp [intOf]; omega
            · have hnx : Hid (bestF L b p (i + 1) = y) := hide (by rw [bestF_skip (fun ⟨_, c, hc, _, _, h5⟩ => by rw [ha.out] at hc; cases hc; exact h3 h5), hy.out])
              have d3 : decide (a.pos < p) = false := decide_eq_false h3
              replace h1 := hide h1
              replace h2 := hide h2
              go_wp2
              go_roundw
              case rel => exact ⟨i + 1, by rw [hnx.out], by go_num, by omega, by omega, trivial⟩
              case measure => simp [intOf]; omega
        · have d1 : (a.block == (b : Int)) = false := by rw [beq_eq_false_iff_ne]; exact h1
          have hnx : Hid (bestF L b p (i + 1) = y) := hide (by rw [bestF_skip (fun ⟨_, c, hc, h5, _⟩ => by rw [ha.out] at hc; cases hc; exact h1 h5), hy.out])
          replace h1 := hide h1
          go_wp2
          go_roundw
          case rel => exact ⟨i + 1, by rw [hnx.out], by go_num, by omega, by omega, trivial⟩
          case measure => simp [intOf]; omega
      · have hend : Hid (bestF L b p i = bestF L b p N) := hide (by
          have e : i = N ∨ i = N + 1 := by omega
          rcases e with e | e
          · rw [e]
          · rw [e, bestF_skip]
            rintro ⟨-, c, hc, -⟩
            have := (List.getElem?_eq_some_iff.1 hc).1
            have := hN.out
            omega)
        rw [hend.out]
        obtain ⟨y, hy⟩ : ∃ y, Hid (y = bestF L b p N) := ⟨_, hide rfl⟩
        have hyr := bestF_range (L := L) (b := b) (p := p) N
        rw [← hy.out] at hz hyr ⊢
        rcases hyr with h0 | ⟨j, h0, hj⟩
        · subst h0
          have d1 : ¬ ((-1 : Int) ≥ 0) := by omega
          by_cases hb0 : b = 0
          · have d2 : ((b : Int) == 0) = true := by rw [hb0]; rfl
            have hz0 : Hid (z = 0) := hide (by rw [hz.out, hb0, stF_top (by omega)])
            replace hb0 := hide hb0
            replace hfin := hide hwW.out
            go_wp2
            go_ret
            exact ⟨by rw [hz0.out]; rfl, hfin.out⟩
          · have d2 : ((b : Int) == 0) = false := by rw [beq_eq_false_iff_ne]; omega
            obtain ⟨u, hu, -, hun, huo, hux⟩ := up_at hI.out hok.out hbO.out hb0
            obtain ⟨g, hg9, r1⟩ := hrl.out b _ hu
            subst hg9
            obtain ⟨x, hx⟩ := get_ex (l := f.blocks) (k := u) (by rw [← hn.out]; exact hun)
            have hz1 : Hid (z = stF L l O u (bestF L u x.length N)) := hide (by
              rw [hz.out, stF_up hb0 hu (by omega), endF_eq hI.out hok.out huo, ← hpos.out u x hx.out, hN.out])
            have hxl : x.length ≤ 2000000 := hzb.out x (List.mem_of_getElem? hx.out)
            obtain ⟨b1, o1, rfl, he1⟩ := gb.out (by rw [← hn.out]; omega)
            obtain ⟨d3, hr1, hd1⟩ := he1 u x hx.out
            obtain ⟨A3, c3, h3, hm3', ga3⟩ := Rp.slice_open hr1
            cases h3
            have hd1' := hd1 V hwW.out
            have hui : (u : Int) < (n : Int) := by omega
            have hmz : Hid (O.idxOf (u : Int) + 1 < gk) := hide (by have := hg.out; omega)
            replace hux := hide hux
            replace hu := hide hu
            have huo' := hide huo
            clear hd1 hr1 he1 ga3 huo
            replace hb0 := hide hb0
            go_wp2
            go_roundg (O.idxOf (u : Int) + 1)
            case measure => have h1 := hmz.out; have h2 := hgk0.out; omega
            case rel => exact ⟨u, x.length, rfl, rfl, hide rfl, huo', hz1, rfl⟩
        · have hz0 : Hid (z = j) := hide (by rw [hz.out, h0, stF_here (by omega)])
          rw [h0]
          have d1 : ((j : Int) ≥ 0) := by omega
          have d2 : max (j : Int) 0 = j := by omega
          replace h0 := hide h0
          replace hfin := hide hwW.out
          go_wp2
          go_ret
          exact ⟨by rw [hz0.out]; rfl, hfin.out⟩
end Go.Proofs.Yteeclobpajalmaa
