/- latheref07.Idom. No condition but sizes. | latheref07.Tree. No condition but sizes. | latheref07.Frontier. No condition but sizes. -/
import Derived.Test.YteeclobpajalmaaDoH
import Derived.Test.YteeclobpajalmaaDoF
import Derived.Test.YteeclobpajalmaaDoD
import Derived.Test.YteeclobpajalmaaDoN
import Derived.Test.YteeclobpajalmaaGrW
import Derived.Test.YteeclobpajalmaaFrC
namespace Go.Proofs.Yteeclobpajalmaa
open Go.RowKit
set_option linter.unusedSimpArgs false
set_option linter.unusedVariables false

def RIdomPost (sc : Int → List Int) (o : List Int) (n : Nat) (w : World) (e : Ending) (w' : World) : Prop := ∃ g, e = .returned (.slice (some ⟨g, 0, none⟩) n n) ∧ OwnN w' w.heap.size g n (idomL (fun a b => domB sc o a b) n) ∧ Below w.heap.size w w'
theorem dom_tab (sc : Int → List Int) (o : List Int) (n : Nat) : TabOk sc o n (fun a b => domB sc o a b) := fun a b _ _ => domB_iff
def foldI (T : Nat → Nat → Bool) (n b a : Nat) : Int := (List.range a).foldl (fun x a => if nearB T n b a then (a : Int) else x) (-1)
theorem foldI_step (T : Nat → Nat → Bool) (n b a : Nat) : foldI T n b (a + 1) = if nearB T n b a then (a : Int) else foldI T n b a := by
  unfold foldI
  rw [List.range_succ, List.foldl_append]
  rfl
theorem foldI_end (T : Nat → Nat → Bool) (n b : Nat) : foldI T n b n = idomAt T n b := rfl
def allC (T : Nat → Nat → Bool) (b a c : Nat) : Bool := (List.range c).all fun c => c == b || !T c b || T c a
theorem allC_step (T : Nat → Nat → Bool) (b a c : Nat) : allC T b a (c + 1) = (allC T b a c && (c == b || !T c b || T c a)) := by
  unfold allC
  rw [List.range_succ, List.all_append]
  simp
theorem near_all (T : Nat → Nat → Bool) (n b a : Nat) : nearB T n b a = (!(a == b) && T a b && allC T b a n) := rfl
def LAt (T : Nat → Nat → Bool) (n b : Nat) (L : List Int) : Prop := ∀ k : Nat, k < b → L[k]? = some (idomAt T n k)
theorem lat_end {T : Nat → Nat → Bool} {n : Nat} {L : List Int} (h : LAt T n n L) (hl : L.length = n) : L = idomL T n := by
  refine List.ext_getElem? fun k => ?_
  by_cases hk : k < n
  · rw [h k hk, idomL_at T hk]
  · rw [List.getElem?_eq_none (by omega), List.getElem?_eq_none (by rw [idomL_len]; omega)]
set_option maxRecDepth 100000 in
set_option maxHeartbeats 12800000 in
theorem ridom_any (f : Fun) (c1 c2 : Value) (w : World) (B : Nat) (hB : B ≤ w.heap.size) (hf : RFun.rep w B [.string f.name, c1, .int .i64 f.ret, c2] f) (hs : Small f) :
    Calls Try.prog 38 #[f.v c1 c2] w (RIdomPost (succsF f.blocks) (orderF f.blocks) f.blocks.length w) := by
  obtain ⟨hp, hb⟩ := fun_open (RFun.later hf (Below.refl _ _) hB)
  obtain ⟨A1, k1, h1, -, -⟩ := Rp.slice1_open hp
  obtain ⟨A2, k2, h2, hm2, -⟩ := Rp.slice1_open hb
  cases h1; cases h2
  clear hp hb
  obtain ⟨n, hn⟩ : ∃ n, Hid (n = f.blocks.length) := ⟨_, hide rfl⟩
  have hnle : n ≤ 2000000 := by rw [hn.out]; exact hs.blocks
  obtain ⟨O, hO⟩ : ∃ O, Hid (O = orderF f.blocks) := ⟨_, hide rfl⟩
  obtain ⟨sc, hsc⟩ : ∃ sc, Hid (sc = succsF f.blocks) := ⟨_, hide rfl⟩
  obtain ⟨R, hR⟩ : ∃ R, Hid (R = reachF f.blocks) := ⟨_, hide rfl⟩
  obtain ⟨P, hP⟩ : ∃ P, Hid (P = predsL sc n) := ⟨_, hide rfl⟩
  have hPl : P.length = n := by rw [hP.out, predsL_len]
  have hRl : R.length = n := by rw [hR.out, hn.out, reach_len]
  have hsok : Hid (∀ b, SuccOk n (sc b)) := hide (fun b => by rw [hsc.out, hn.out]; exact succsF_ok _ _)
  have hok : Hid (OrderOk n sc O) := hide (by rw [hO.out, hn.out, hsc.out]; exact order_ok _)
  have hol : O.length ≤ n := by rw [hO.out, hn.out]; exact order_len _
  have hRat : Hid (∀ k : Nat, k < n → R[k]? = some (decide ((k : Int) ∈ O))) := hide (fun k hk => by rw [hR.out, hO.out]; exact reach_at _ _ (by rw [← hn.out]; exact hk))
  rw [← hn.out, ← hO.out, ← hsc.out]
  rw [← hn.out] at hf hm2
  obtain ⟨W, hW, hwW, hWs, hx⟩ := boxes1 w #[.string f.name, .slice A1 f.params.length k1, .int .i64 f.ret, .slice A2 n k2] 25
  have q0 : ∀ w', Below W.heap.size W w' → w'.cell? ⟨w.heap.size, 0, none⟩ = some (.string f.name) := hx 0 _ rfl
  have q1 : ∀ w', Below W.heap.size W w' → w'.cell? ⟨w.heap.size, 1, none⟩ = some (.slice A1 f.params.length k1) := hx 1 _ rfl
  have q2 : ∀ w', Below W.heap.size W w' → w'.cell? ⟨w.heap.size, 2, none⟩ = some (.int .i64 f.ret) := hx 2 _ rfl
  have q3 : ∀ w', Below W.heap.size W w' → w'.cell? ⟨w.heap.size, 3, none⟩ = some (.slice A2 n k2) := hx 3 _ rfl
  clear hx
  have hws : w.heap.size ≤ W.heap.size := by omega
  replace hWs := hide hWs
  have hself := Below.refl W.heap.size W
  have hF : Hid (∀ w', Below W.heap.size W w' → RFun.rep w' w'.heap.size [.string f.name, .slice A1 f.params.length k1, .int .i64 f.ret, .slice A2 n k2] f) := hide (fun w' h => RFun.later hf ((hwW.trans (h.mono hws)).mono hB) (Nat.le_trans hB (hwW.trans (h.mono hws)).size))
  have cT : Hid (∀ w', Below W.heap.size W w' → Calls Try.prog 69 #[f.v (.slice A1 f.params.length k1) (.slice A2 n k2)] w' (TablePost sc O n w')) := hide (fun w' h => by
    have := table_any f (.slice A1 f.params.length k1) (.slice A2 n k2) w' w'.heap.size (Nat.le_refl _) (hF.out w' h) hs
    rwa [← hn.out, ← hO.out, ← hsc.out] at this)
  replace hs := hide hs
  replace hf := hide hf
  replace hwW := hide hwW
  obtain ⟨i0, hi0, hz0, hz1, hz2⟩ := cinfo_parts cinfo_int
  replace hi0 := hide hi0
  replace hz0 := hide hz0
  replace hz1 := hide hz1
  replace hz2 := hide hz2
  replace hW := hide hW
  go_enter Try.func38, Try.ntmps38
  go_upto_region 1 with (fail)
  rw [hW.out]
  clear hW
  go_wp2_with (fail)
  refine (cT.out _ hself).mono ?_
  rintro e X ⟨gt, Lt, rfl, hT4, hb4⟩
  have hTr := hide hT4.reads
  have hsX := hb4.size
  have hwX : Hid (∀ w', Below X.heap.size X w' → Below w.heap.size w w') := hide (fun w' h => hwW.out.trans ((hb4.trans (h.mono hsX)).mono hws))
  obtain ⟨T, hTe⟩ : ∃ T : Nat → Nat → Bool, Hid (T = fun (a b : Nat) => domB sc O a b) := ⟨_, hide rfl⟩
  have hrd : Hid (∀ a : Nat, a < n → ∃ ga, (∀ w', Below X.heap.size X w' → w'.cell? ⟨gt, a, none⟩ = some (.slice (some ⟨ga, 0, none⟩) n n)) ∧ ∀ b : Nat, b < n → ∀ w', Below X.heap.size X w' → w'.cell? ⟨ga, b, none⟩ = some (.bool (T a b))) := hide (fun a ha => by rw [hTe.out]; exact hTr.out a ha)
  have hfin : Hid (idomL (fun a b => domB sc O a b) n = idomL T n) := hide (by rw [hTe.out])
  replace hb4 := hide hb4
  replace hT4 := hide hT4
  clear cT q0 q1 q2 q3 hself hTr
  go_wp2_with (at_make; refine wpList_make_full _ rfl (.tmp 15) (.tmp 15) _ rfl X.heap.size 3 i0 _ 1 Try.underlying22 hi0.out hz0.out hz1.out .i64 .i64 n n n rfl rfl rfl rfl ?c1 ?c2 (Nat.le_refl _) ?_)
  case c1 => rw [hz2.out]; omega
  case c2 => unfold maxLen; omega
  intro w5 hown5 hg5
  have hb5 := below_grown0 hg5
  have hN5 : Hid (∃ L, OwnN w5 X.heap.size X.heap.size n L ∧ LAt T n 0 L) := hide ⟨List.replicate n 0, by
    show w5.ownsRow X.heap.size 3 1 _ n ((List.replicate n (0 : Int)).map fun z => Value.int .i64 z)
    rw [List.map_replicate]
    have h := hown5
    rwa [toList_madeCells_one] at h, fun k hk => by omega⟩
  clear hown5 hg5
  go_wp2
  go_loopw [6] (fun s wr => ∃ b : Nat, s = .int .i64 b ∧ b ≤ n ∧ Hid (∃ L, OwnN wr X.heap.size X.heap.size n L ∧ LAt T n b L) ∧ Below X.heap.size X wr) (fun s _ => n - (intOf s).toNat)
  case atStart => exact ⟨0, rfl, Nat.zero_le _, hN5, hb5⟩
  case round =>
    clear hN5 hb5
    rename World => V
    obtain ⟨b, rfl, hb, hNb, hbel⟩ := hrel
    by_cases hlt : b < n
    · have hbi : (b : Int) < (n : Int) := by omega
      obtain ⟨L, hN, hL⟩ := hNb.out
      have hLl := hN.len
      obtain ⟨x, hx⟩ := get_ex (l := L) (k := b) (by omega)
      have rc := hN.cell hx.out
      have fc := hN.free b
      have hst := hN.set_ b (-1)
      have hon := hbel.setCell (p := ⟨X.heap.size, b, none⟩) (Nat.le_refl _) (.int .i64 (-1))
      have hNx : Hid (∃ L, OwnN (V.setCell ⟨X.heap.size, b, none⟩ (.int .i64 (-1))) X.heap.size X.heap.size n L ∧ LAt T n b L ∧ L[b]? = some (foldI T n b 0)) := hide ⟨_, hst, fun k hk => by rw [List.getElem?_set_ne (by omega)]; exact hL k hk, by rw [List.getElem?_set_self (by omega)]; rfl⟩
      replace hN := hide hN
      replace hL := hide hL
      clear hst
      go_upto_region 8 with (fail)
      obtain ⟨Z, hZ⟩ : ∃ Z, V.setCell ⟨X.heap.size, b, none⟩ (.int .i64 (-1)) = Z := ⟨_, rfl⟩
      rw [hZ] at hNx hon ⊢
      clear hZ rc fc
      go_wp2
      go_loopw [7] (fun s wr => ∃ a : Nat, s = .int .i64 a ∧ a ≤ n ∧ Hid (∃ L, OwnN wr X.heap.size X.heap.size n L ∧ LAt T n b L ∧ L[b]? = some (foldI T n b a)) ∧ Below X.heap.size X wr) (fun s _ => n - (intOf s).toNat)
      case atStart => exact ⟨0, rfl, Nat.zero_le _, hNx, hon⟩
      case round =>
        clear hNx hon hbel hN hL hx
        rename World => V
        obtain ⟨a, rfl, ha, hNa, hbel⟩ := hrel
        by_cases hlta : a < n
        · have hai : (a : Int) < (n : Int) := by omega
          obtain ⟨ga, ra, rab⟩ := hrd.out a hlta
          have ra0 := ra V hbel
          have rab0 := rab b hlt V hbel
          clear ra rab
          by_cases hab : a = b
          · have hab1 : ((a : Int) == (b : Int)) = true := by simp [hab]
            have hnx : Hid (∃ L, OwnN V X.heap.size X.heap.size n L ∧ LAt T n b L ∧ L[b]? = some (foldI T n b (a + 1))) := hide (by
              obtain ⟨L, h1, h2, h3⟩ := hNa.out
              refine ⟨L, h1, h2, ?_⟩
              rw [foldI_step, near_all, hab]
              simp only [beq_self_eq_true, Bool.not_true, Bool.false_and, Bool.false_eq_true, if_false]
              rw [← hab]; rw [← hab] at h3; exact h3)
            replace hab := hide hab
            go_wp2
            go_roundw
            case rel => exact ⟨a + 1, by go_num, hlta, hnx, hbel⟩
            case measure => simp [intOf]; omega
          · have hab1 : ((a : Int) == (b : Int)) = false := by simp; omega
            have hab2 : (a == b) = false := by simp [hab]
            cases hTab : T a b with
            | false =>
              rw [hTab] at rab0
              have hnx : Hid (∃ L, OwnN V X.heap.size X.heap.size n L ∧ LAt T n b L ∧ L[b]? = some (foldI T n b (a + 1))) := hide (by
                obtain ⟨L, h1, h2, h3⟩ := hNa.out
                refine ⟨L, h1, h2, ?_⟩
                rw [foldI_step, near_all, hTab]
                simp only [Bool.and_false, Bool.false_and, Bool.false_eq_true, if_false]
                exact h3)
              replace hTab := hide hTab
              replace hab := hide hab
              replace hab2 := hide hab2
              go_wp2
              go_roundw
              case rel => exact ⟨a + 1, by go_num, hlta, hnx, hbel⟩
              case measure => simp [intOf]; omega
            | true =>
              rw [hTab] at rab0
              replace hTab := hide hTab
              replace hab := hide hab
              replace hab2 := hide hab2
              have hst0 : Hid (allC T b a 0 = true) := hide rfl
              replace hNa := hide hNa
              go_upto_region 14 with (fail)
              go_loopw [9, 8] (fun s9 s8 wr => ∃ (c : Nat) (nf : Bool), s9 = .int .i64 c ∧ s8 = .bool nf ∧ c ≤ n ∧ Hid (allC T b a c = nf) ∧ wr = V) (fun s _ _ => n - (intOf s).toNat)
              case atStart => exact ⟨0, true, rfl, rfl, Nat.zero_le _, hst0, rfl⟩
              case round =>
                clear hst0 rab0
                obtain ⟨c, nf, rfl, rfl, hc, hnf, rfl⟩ := hrel
                by_cases hltc : c < n
                · have hci : (c : Int) < (n : Int) := by omega
                  obtain ⟨gc, rc0, rcb⟩ := hrd.out c hltc
                  have rc0' := rc0 _ hbel
                  have rcb0 := rcb b hlt _ hbel
                  have rca0 := rcb a hlta _ hbel
                  have hstep := allC_step T b a c
                  rw [hnf.out] at hstep
                  clear rc0 rcb
                  by_cases hcb : c = b
                  · have hcb1 : ((c : Int) != (b : Int)) = false := by simp [hcb]
                    have hnx : Hid (allC T b a (c + 1) = nf) := hide (by rw [hstep, hcb]; simp)
                    replace hstep := hide hstep
                    replace hcb := hide hcb
                    go_wp2
                    go_roundw
                    case rel => exact ⟨c + 1, nf, by go_num, rfl, hltc, hnx, by trivial⟩
                    case measure => simp [intOf]; omega
                  · have hcb1 : ((c : Int) != (b : Int)) = true := by simp; omega
                    have hcb2 : (c == b) = false := by simp [hcb]
                    rw [hcb2] at hstep
                    replace hcb := hide hcb
                    cases hTcb : T c b with
                    | false =>
                      rw [hTcb] at rcb0 hstep
                      have hnx : Hid (allC T b a (c + 1) = nf) := hide (by rw [hstep]; simp)
                      replace hstep := hide hstep
                      replace hTcb := hide hTcb
                      replace hcb2 := hide hcb2
                      go_wp2
                      go_roundw
                      case rel => exact ⟨c + 1, nf, by go_num, rfl, hltc, hnx, by trivial⟩
                      case measure => simp [intOf]; omega
                    | true =>
                      rw [hTcb] at rcb0 hstep
                      cases hTca : T c a with
                      | false =>
                        rw [hTca] at rca0 hstep
                        have hnx : Hid (allC T b a (c + 1) = false) := hide (by rw [hstep]; simp)
                        replace hstep := hide hstep
                        replace hTcb := hide hTcb
                        replace hTca := hide hTca
                        replace hcb2 := hide hcb2
                        go_wp2
                        go_roundw
                        case rel => exact ⟨c + 1, false, by go_num, rfl, hltc, hnx, by trivial⟩
                        case measure => simp [intOf]; omega
                      | true =>
                        rw [hTca] at rca0 hstep
                        have hnx : Hid (allC T b a (c + 1) = nf) := hide (by rw [hstep]; simp)
                        replace hstep := hide hstep
                        replace hTcb := hide hTcb
                        replace hTca := hide hTca
                        replace hcb2 := hide hcb2
                        go_wp2
                        go_roundw
                        case rel => exact ⟨c + 1, nf, by go_num, rfl, hltc, hnx, by trivial⟩
                        case measure => simp [intOf]; omega
                · obtain rfl : c = n := by omega
                  have hnear : Hid (nearB T c b a = nf) := hide (by rw [near_all, hab2.out, hTab.out, hnf.out]; simp)
                  obtain ⟨L, hN, hL, hLb⟩ := hNa.out.out
                  cases nf with
                  | false =>
                    have hnx : Hid (∃ L, OwnN _ X.heap.size X.heap.size c L ∧ LAt T c b L ∧ L[b]? = some (foldI T c b (a + 1))) := hide ⟨L, hN, hL, by rw [foldI_step, hnear.out]; exact hLb⟩
                    replace hN := hide hN
                    replace hL := hide hL
                    replace hLb := hide hLb
                    go_wp2
                    go_roundw
                    case rel => exact ⟨a + 1, by go_num, hlta, hnx, hbel⟩
                    case measure => simp [intOf]; omega
                  | true =>
                    have hLl := hN.len
                    have rcell := hN.cell hLb
                    have fcell := hN.free b
                    have hst := hN.set_ b (a : Int)
                    have hon := hide (hbel.setCell (p := ⟨X.heap.size, b, none⟩) (Nat.le_refl _) (.int .i64 (a : Int)))
                    have hnx : Hid (∃ L, OwnN _ X.heap.size X.heap.size c L ∧ LAt T c b L ∧ L[b]? = some (foldI T c b (a + 1))) := hide ⟨_, hst, fun k hk => by rw [List.getElem?_set_ne (by omega)]; exact hL k hk, by rw [foldI_step, hnear.out, List.getElem?_set_self (by omega)]; rfl⟩
                    replace hN := hide hN
                    replace hL := hide hL
                    replace hLb := hide hLb
                    replace hst := hide hst
                    go_wp2
                    go_roundw
                    case rel => exact ⟨a + 1, by go_num, hlta, hnx, hon.out⟩
                    case measure => simp [intOf]; omega
        · obtain rfl : a = n := by omega
          have hnx : Hid (∃ L, OwnN V X.heap.size X.heap.size a L ∧ LAt T a (b + 1) L) := hide (by
            obtain ⟨L, h1, h2, h3⟩ := hNa.out
            refine ⟨L, h1, fun k hk => ?_⟩
            by_cases e : k = b
            · subst e; rw [h3, foldI_end]
            · exact h2 k (by omega))
          go_wp2
          go_roundw
          case rel => exact ⟨b + 1, by go_num, hlt, hnx, hbel⟩
          case measure => simp [intOf]; omega
    · obtain rfl : b = n := by omega
      obtain ⟨L, hN, hL⟩ := hNb.out
      have e := lat_end hL hN.len
      have hfin2 : Hid (OwnN V w.heap.size X.heap.size b (idomL (fun a b => domB sc O a b) b)) := hide (by rw [hfin.out, ← e]; exact hN.mono (by have := (hwX.out V hbel).size; have := (hwX.out X (Below.refl _ _)).size; omega))
      have hw := hide (hwX.out V hbel)
      replace hN := hide hN
      replace hL := hide hL
      replace e := hide e
      go_wp2
      go_ret
      exact ⟨X.heap.size, rfl, hfin2.out, hw.out⟩
end Go.Proofs.Yteeclobpajalmaa

namespace Go.Proofs.Yteeclobpajalmaa
open Go.RowKit
set_option linter.unusedSimpArgs false
set_option linter.unusedVariables false

theorem foldI_bound (T : Nat → Nat → Bool) (n b : Nat) : ∀ a : Nat, -1 ≤ foldI T n b a ∧ foldI T n b a < a
  | 0 => ⟨by simp [foldI], by simp [foldI]⟩
  | a + 1 => by
    have := foldI_bound T n b a
    rw [foldI_step]
    split <;> omega
theorem idomL_bound {T : Nat → Nat → Bool} {n : Nat} {u : Int} (h : u ∈ idomL T n) : -1 ≤ u ∧ u < n := by
  obtain ⟨k, hk⟩ := List.mem_iff_getElem?.1 h
  have hk1 := (List.getElem?_eq_some_iff.1 hk).1
  rw [idomL_len] at hk1
  rw [idomL_at T hk1] at hk
  have := foldI_bound T n k n
  rw [foldI_end] at this
  cases hk
  exact this
def RTreePost (sc : Int → List Int) (o : List Int) (n : Nat) (w : World) (e : Ending) (w' : World) : Prop := ∃ g cs, e = .returned (.slice (some ⟨g, 0, none⟩) n n) ∧ OwnL w' w.heap.size none (.slice (some ⟨g, 0, none⟩) n n) (treeL (idomL (fun a b => domB sc o a b) n) n n) cs ∧ Below w.heap.size w w'
end Go.Proofs.Yteeclobpajalmaa

namespace Go.Proofs.Yteeclobpajalmaa
open Go.RowKit
set_option linter.unusedSimpArgs false
set_option linter.unusedVariables false

/-- rows 0 .. a-1 whole, row a up to b -/
def rF (q : Nat → Nat → Bool) (n a b : Nat) : List (List Int) := (List.range n).map fun t => if t < a then qAt q t n else if t = a then qAt q t b else []
section
variable {q : Nat → Nat → Bool} {n a b : Nat}
theorem rF_len (q : Nat → Nat → Bool) (n a b : Nat) : (rF q n a b).length = n := by simp [rF]
theorem rF_at {t : Nat} (h : t < n) : (rF q n a b)[t]? = some (if t < a then qAt q t n else if t = a then qAt q t b else []) := by simp [rF, h]
theorem rF_self (h : a < n) : (rF q n a b)[a]? = some (qAt q a b) := by rw [rF_at h]; simp
theorem rF_ext {l : List (List Int)} (hl : l.length = n) (h : ∀ t, t < n → l[t]? = some (if t < a then qAt q t n else if t = a then qAt q t b else [])) : l = rF q n a b := by
  refine List.ext_getElem? fun k => ?_
  by_cases hk : k < n
  · rw [h k hk, rF_at hk]
  · rw [List.getElem?_eq_none (by omega), List.getElem?_eq_none (by rw [rF_len]; omega)]
theorem qAt_zero {t : Nat} : qAt q t 0 = [] := by simp [qAt]
theorem rF_start : rF q n 0 0 = List.replicate n [] := (rF_ext (by simp) fun t ht => by
  rw [List.getElem?_replicate, if_pos ht, qAt_zero]
  simp).symm
theorem rF_next : rF q n a n = rF q n (a + 1) 0 := rF_ext (rF_len ..) fun t ht => by
  rw [rF_at ht, qAt_zero]
  by_cases h1 : t < a
  · rw [if_pos h1, if_pos (by omega)]
  · by_cases h2 : t = a
    · rw [if_neg h1, if_pos h2, if_pos (by omega)]
    · rw [if_neg h1, if_neg h2, if_neg (by omega)]; simp
theorem rF_end : rF q n n 0 = qL q n n := by
  refine List.ext_getElem? fun k => ?_
  by_cases hk : k < n
  · rw [rF_at hk, if_pos hk, qL_at hk]
  · rw [List.getElem?_eq_none (by rw [rF_len]; omega), List.getElem?_eq_none (by rw [qL_len]; omega)]
theorem rF_push (ha : a < n) (h : q a b = true) : (rF q n a b).set a (qAt q a b ++ [(b : Int)]) = rF q n a (b + 1) := rF_ext (by rw [List.length_set, rF_len]) fun t ht => by
  by_cases e : a = t
  · subst e; rw [List.getElem?_set_self (by rw [rF_len]; exact ht), qAt_step, if_pos h]; simp
  · rw [List.getElem?_set_ne e, rF_at ht]
    have e2 : ¬ t = a := fun e3 => e e3.symm
    rw [if_neg e2, if_neg e2]
theorem rF_skip (h : q a b = false) : rF q n a b = rF q n a (b + 1) := rF_ext (rF_len ..) fun t ht => by
  rw [rF_at ht]
  by_cases e : t = a
  · subst e; rw [qAt_step, h]; simp
  · rw [if_neg e, if_neg e]
end
/-- one of the first i predecessors is dominated by a -/
def swB (T : Nat → Nat → Bool) (p : List Int) (a i : Nat) : Bool := (p.take i).any fun x => T a x.toNat
theorem swB_step {T : Nat → Nat → Bool} {p : List Int} {a i xn : Nat} (h : p[i]? = some (xn : Int)) : swB T p a (i + 1) = (swB T p a i || T a xn) := by
  unfold swB
  rw [List.take_add_one, h, List.any_append]
  simp
theorem sw_front {sc : Int → List Int} {O p : List Int} {n a b : Nat} (ok : OrderOk n sc O) (hp : ∀ x, x ∈ p ↔ (0 ≤ x ∧ x < n ∧ (b : Int) ∈ sc x)) :
    frB sc O a b = (swB (fun a b => domB sc O a b) p a p.length && (a == b || !domB sc O a b)) := by
  unfold swB
  rw [List.take_length, Bool.eq_iff_iff, frB_iff]
  simp only [Bool.and_eq_true, List.any_eq_true, domB_iff, Bool.or_eq_true, beq_iff_eq, Bool.not_eq_true']
  constructor
  · rintro ⟨x, h1, h2, h3⟩
    have hb := ok.bound x h2.2.1
    refine ⟨⟨x, (hp x).2 ⟨hb.1, hb.2, h1⟩, by rw [Int.toNat_of_nonneg hb.1]; exact h2⟩, ?_⟩
    rcases h3 with h3 | h3
    · exact .inl (by omega)
    · exact .inr (by rw [← Bool.not_eq_true, domB_iff]; exact h3)
  · rintro ⟨⟨x, h1, h2⟩, h3⟩
    obtain ⟨g1, g2, g3⟩ := (hp x).1 h1
    rw [Int.toNat_of_nonneg g1] at h2
    refine ⟨x, g3, h2, ?_⟩
    rcases h3 with h3 | h3
    · exact .inl (by omega)
    · exact .inr (by rw [← domB_iff, h3]; simp)
set_option maxRecDepth 100000 in
set_option maxHeartbeats 12800000 in
theorem rfront_any (f : Fun) (c1 c2 : Value) (w : World) (B : Nat) (hB : B ≤ w.heap.size) (hf : RFun.rep w B [.string f.name, c1, .int .i64 f.ret, c2] f) (hs : Small f) :
    Calls Try.prog 96 #[f.v c1 c2] w (FrontPost (succsF f.blocks) (orderF f.blocks) f.blocks.length w) := by
  obtain ⟨hp, hb⟩ := fun_open (RFun.later hf (Below.refl _ _) hB)
  obtain ⟨A1, k1, h1, -, -⟩ := Rp.slice1_open hp
  obtain ⟨A2, k2, h2, hm2, -⟩ := Rp.slice1_open hb
  cases h1; cases h2
  clear hp hb
  obtain ⟨n, hn⟩ : ∃ n, Hid (n = f.blocks.length) := ⟨_, hide rfl⟩
  have hnle : n ≤ 2000000 := by rw [hn.out]; exact hs.blocks
  obtain ⟨O, hO⟩ : ∃ O, Hid (O = orderF f.blocks) := ⟨_, hide rfl⟩
  obtain ⟨sc, hsc⟩ : ∃ sc, Hid (sc = succsF f.blocks) := ⟨_, hide rfl⟩
  obtain ⟨R, hR⟩ : ∃ R, Hid (R = reachF f.blocks) := ⟨_, hide rfl⟩
  obtain ⟨P, hP⟩ : ∃ P, Hid (P = predsL sc n) := ⟨_, hide rfl⟩
  have hPl : P.length = n := by rw [hP.out, predsL_len]
  have hRl : R.length = n := by rw [hR.out, hn.out, reach_len]
  have hsok : Hid (∀ b, SuccOk n (sc b)) := hide (fun b => by rw [hsc.out, hn.out]; exact succsF_ok _ _)
  have hok : Hid (OrderOk n sc O) := hide (by rw [hO.out, hn.out, hsc.out]; exact order_ok _)
  have hol : O.length ≤ n := by rw [hO.out, hn.out]; exact order_len _
  have hRat : Hid (∀ k : Nat, k < n → R[k]? = some (decide ((k : Int) ∈ O))) := hide (fun k hk => by rw [hR.out, hO.out]; exact reach_at _ _ (by rw [← hn.out]; exact hk))
  rw [← hn.out, ← hO.out, ← hsc.out]
  rw [← hn.out] at hf hm2
  obtain ⟨W, hW, hwW, hWs, hx⟩ := boxes1 w #[.string f.name, .slice A1 f.params.length k1, .int .i64 f.ret, .slice A2 n k2] 25
  have q0 : ∀ w', Below W.heap.size W w' → w'.cell? ⟨w.heap.size, 0, none⟩ = some (.string f.name) := hx 0 _ rfl
  have q1 : ∀ w', Below W.heap.size W w' → w'.cell? ⟨w.heap.size, 1, none⟩ = some (.slice A1 f.params.length k1) := hx 1 _ rfl
  have q2 : ∀ w', Below W.heap.size W w' → w'.cell? ⟨w.heap.size, 2, none⟩ = some (.int .i64 f.ret) := hx 2 _ rfl
  have q3 : ∀ w', Below W.heap.size W w' → w'.cell? ⟨w.heap.size, 3, none⟩ = some (.slice A2 n k2) := hx 3 _ rfl
  clear hx
  have hws : w.heap.size ≤ W.heap.size := by omega
  replace hWs := hide hWs
  have hself := Below.refl W.heap.size W
  have hF : Hid (∀ w', Below W.heap.size W w' → RFun.rep w' w'.heap.size [.string f.name, .slice A1 f.params.length k1, .int .i64 f.ret, .slice A2 n k2] f) := hide (fun w' h => RFun.later hf ((hwW.trans (h.mono hws)).mono hB) (Nat.le_trans hB (hwW.trans (h.mono hws)).size))
  have cT : Hid (∀ w', Below W.heap.size W w' → Calls Try.prog 69 #[f.v (.slice A1 f.params.length k1) (.slice A2 n k2)] w' (TablePost sc O n w')) := hide (fun w' h => by
    have := table_any f (.slice A1 f.params.length k1) (.slice A2 n k2) w' w'.heap.size (Nat.le_refl _) (hF.out w' h) hs
    rwa [← hn.out, ← hO.out, ← hsc.out] at this)
  have cP : Hid (∀ w', Below W.heap.size W w' → Calls Try.prog 39 #[f.v (.slice A1 f.params.length k1) (.slice A2 n k2)] w' (PredPost n P w')) := hide (fun w' h => by
    have := rpreds_any f (.slice A1 f.params.length k1) (.slice A2 n k2) w' w'.heap.size (Nat.le_refl _) (hF.out w' h) hs
    rwa [← hn.out, ← hsc.out, ← hP.out] at this)
  replace hs := hide hs
  replace hf := hide hf
  replace hwW := hide hwW
  obtain ⟨i0, hi0, hz0, hz1, hz2⟩ := cinfo_parts cinfo_int
  obtain ⟨b0, hb0, hx0, hx1, hx2⟩ := cinfo_parts cinfo_ints
  replace hi0 := hide hi0
  replace hz0 := hide hz0
  replace hz1 := hide hz1
  replace hz2 := hide hz2
  replace hb0 := hide hb0
  replace hx0 := hide hx0
  replace hx1 := hide hx1
  replace hx2 := hide hx2
  replace hW := hide hW
  go_enter Try.func96, Try.ntmps96
  go_upto_region 1 with (fail)
  rw [hW.out]
  clear hW
  go_wp2_with (fail)
  refine (cT.out _ hself).mono ?_
  rintro e X1 ⟨gt, Lt, rfl, hT4, hb2⟩
  have hsX1 := hb2.size
  go_wp2_with (fail)
  refine (cP.out _ hb2).mono ?_
  rintro e X ⟨gp, cs, rfl, hP4, hb3⟩
  have hbX := hb2.trans (hb3.mono hsX1)
  have hsX := hb3.size
  have hwX : Hid (∀ w', Below X.heap.size X w' → Below w.heap.size w w') := hide (fun w' h => hwW.out.trans ((hbX.trans (h.mono hbX.size)).mono hws))
  have hTr := (hT4.below hb3).reads
  obtain ⟨T, hTe⟩ : ∃ T : Nat → Nat → Bool, Hid (T = fun (a b : Nat) => domB sc O a b) := ⟨_, hide rfl⟩
  have hrd : Hid (∀ a : Nat, a < n → ∃ ga, (∀ w', Below X.heap.size X w' → w'.cell? ⟨gt, a, none⟩ = some (.slice (some ⟨ga, 0, none⟩) n n)) ∧ ∀ b : Nat, b < n → ∀ w', Below X.heap.size X w' → w'.cell? ⟨ga, b, none⟩ = some (.bool (T a b))) := hide (fun a ha => by rw [hTe.out]; exact hTr a ha)
  have hpr := hide (rows_reads hP4 hPl)
  have hPm : Hid (∀ (k : Nat) p, P[k]? = some p → p.length ≤ 2000000 ∧ ∀ x, x ∈ p ↔ (0 ≤ x ∧ x < n ∧ (k : Int) ∈ sc x)) := hide (fun k p hk => by
    rw [hP.out] at hk
    have hm := fun x => predsL_mem hk x
    refine ⟨?_, hm⟩
    have := range_len n p ((predsL_sorted hk).imp fun h => by omega) (fun x hx => ⟨((hm x).1 hx).1, ((hm x).1 hx).2.1⟩)
    omega)
  obtain ⟨q, hq⟩ : ∃ q : Nat → Nat → Bool, Hid (q = frB sc O) := ⟨_, hide rfl⟩
  have hsf : Hid (∀ (b : Nat) p, P[b]? = some p → ∀ a, q a b = (swB T p a p.length && (a == b || !T a b))) := hide (fun b p hp a => by rw [hq.out, hTe.out]; exact sw_front hok.out (hPm.out b p hp).2)
  have hwXs : Hid (w.heap.size ≤ X.heap.size) := hide (Nat.le_trans hws hbX.size)
  clear hT4 hP4 hb2 hb3 hbX hTr cT cP q0 q1 q2 q3 hself hsX hsX1
  go_wp2_with (at_make; refine wpList_make_full _ rfl (.tmp 18) (.tmp 18) _ rfl X.heap.size 22 b0 _ 1 Try.underlying38 hb0.out hx0.out hx1.out .i64 .i64 n n n rfl rfl rfl rfl ?c1 ?c2 (Nat.le_refl _) ?_)
  case c1 => rw [hx2.out]; omega
  case c2 => unfold maxLen; omega
  intro w1 hown1 hg1
  have hbel1 := below_grown0 hg1
  have hmk1 : Hid (∃ cs, OwnL w1 X.heap.size none (.slice (some ⟨X.heap.size, 0, none⟩) n n) (rF q n 0 0) cs) := hide ⟨_, by
    rw [rF_start]
    exact OwnL.start (made_rows hown1)⟩
  clear hg1 hown1
  go_wp2
  go_loopw [7] (fun j wr => ∃ a : Nat, j = .int .i64 a ∧ a ≤ n ∧ Hid (∃ cs, OwnL wr X.heap.size none (.slice (some ⟨X.heap.size, 0, none⟩) n n) (rF q n a 0) cs) ∧ Below X.heap.size X wr) (fun i _ => n - (intOf i).toNat)
  case atStart => exact ⟨0, rfl, Nat.zero_le _, hmk1, hbel1⟩
  case round =>
    clear hmk1 hbel1
    rename World => V0
    obtain ⟨a, rfl, ha, hrow0, hbel0⟩ := hrel
    by_cases hlta : a < n
    · have hai : (a : Int) < (n : Int) := by omega
      obtain ⟨ga, ra, rab⟩ := hrd.out a hlta
      go_wp2
      go_loopw [8] (fun j wr => ∃ b : Nat, j = .int .i64 b ∧ b ≤ n ∧ Hid (∃ cs, OwnL wr X.heap.size none (.slice (some ⟨X.heap.size, 0, none⟩) n n) (rF q n a b) cs) ∧ Below X.heap.size X wr) (fun i _ => n - (intOf i).toNat)
      case atStart => exact ⟨0, rfl, Nat.zero_le _, hrow0, hbel0⟩
      case round =>
        clear hrow0 hbel0
        rename World => V
        obtain ⟨b, rfl, hb, hrow, hbel⟩ := hrel
        by_cases hlt : b < n
        · have hbi : (b : Int) < (n : Int) := by omega
          obtain ⟨p, hp⟩ := get_ex (l := P) (k := b) (by omega)
          obtain ⟨Ap, Cp, rp, rpx⟩ := hpr.out b p hp.out
          obtain ⟨hpl, hpm⟩ := hPm.out b p hp.out
          have hfr := hide (hsf.out b p hp.out a)
          replace hpm := hide hpm
          replace rpx := hide rpx
          have rp0 := rp V hbel
          obtain ⟨m, hm⟩ : ∃ m, Hid (m = p.length) := ⟨_, hide rfl⟩
          rw [← hm.out] at rp rp0 hpl hfr
          have hs0 : Hid (swB T p a 0 = false) := hide (by simp [swB])
          go_wp2
          go_loopw [10, 9] (fun s s9 wr => ∃ (i : Nat) (sw : Bool), s = .int .i64 i ∧ s9 = .bool sw ∧ i ≤ m ∧ Hid (swB T p a i = sw) ∧ Hid (∃ cs, OwnL wr X.heap.size none (.slice (some ⟨X.heap.size, 0, none⟩) n n) (rF q n a b) cs) ∧ Below X.heap.size X wr) (fun s _ _ => m - (intOf s).toNat)
          case atStart => exact ⟨0, false, rfl, rfl, Nat.zero_le _, hs0, hrow, hbel⟩
          case round =>
            clear hs0 hrow hbel rp0
            rename World => V2
            obtain ⟨i, sw, rfl, rfl, hi, hsw, hrow, hbel⟩ := hrel
            have rp0 := rp V2 hbel
            by_cases hlti : i < m
            · have hii : (i : Int) < (m : Int) := by omega
              obtain ⟨x0, hx0'⟩ := get_ex (l := p) (k := i) (by rw [← hm.out]; exact hlti)
              obtain ⟨hm1, hm2', -⟩ := (hpm.out x0).1 (List.mem_of_getElem? hx0'.out)
              obtain ⟨xn, rfl⟩ := Int.eq_ofNat_of_zero_le hm1
              have hxn : xn < n := by omega
              have hstep := swB_step (T := T) (a := a) hx0'.out
              rw [hsw.out] at hstep
              cases sw with
              | true =>
                have hnx : Hid (swB T p a (i + 1) = true) := hide (by rw [hstep]; simp)
                replace hstep := hide hstep
                go_wp2
                go_upto_region 15 with (fail)
                go_quiet (fail)
                go_wp2
                have hrow2 : Hid (∃ cs, OwnL (V2.drewN nq) X.heap.size none (.slice (some ⟨X.heap.size, 0, none⟩) n n) (rF q n a b) cs) := hide (by obtain ⟨cs, h⟩ := hrow.out; exact ⟨cs, h.below (bdn (Below.refl _ _) nq)⟩)
                go_roundw
                case rel => exact ⟨i + 1, true, by go_num, rfl, hlti, hnx, hrow2, bdn hbel nq⟩
                case measure => simp [intOf]; omega
              | false =>
                obtain ⟨g5, rfl, rx⟩ := rpx.out (by rw [← hm.out]; omega)
                have rx0 := rx i _ hx0'.out V2 hbel
                have ra0 := ra V2 hbel
                have rab0 := rab xn hxn V2 hbel
                have hnx : Hid (swB T p a (i + 1) = T a xn) := hide (by rw [hstep]; simp)
                replace hstep := hide hstep
                clear rx ra rab
                go_wp2
                go_upto_region 15 with (fail)
                go_quiet (fail)
                go_wp2
                have hrow2 : Hid (∃ cs, OwnL (V2.drewN nq) X.heap.size none (.slice (some ⟨X.heap.size, 0, none⟩) n n) (rF q n a b) cs) := hide (by obtain ⟨cs, h⟩ := hrow.out; exact ⟨cs, h.below (bdn (Below.refl _ _) nq)⟩)
                go_roundw
                case rel => exact ⟨i + 1, _, by go_num, rfl, hlti, hnx, hrow2, bdn hbel nq⟩
                case measure => simp [intOf]; omega
            · obtain rfl : i = m := by omega
              rw [hsw.out] at hfr
              have ra0 := ra V2 hbel
              have rab0 := rab b hlt V2 hbel
              clear ra rab rp
              obtain ⟨ab, hab⟩ : ∃ ab, Hid (T a b = ab) := ⟨_, hide rfl⟩
              rw [hab.out] at rab0 hfr
              have hab1 : Hid (((a : Int) == (b : Int)) = (a == b)) := hide (by
                by_cases e : a = b
                · simp [e]
                · rw [beq_eq_false_iff_ne.2 e]; simp; omega)
              obtain ⟨eb, heb⟩ : ∃ eb, Hid ((a == b) = eb) := ⟨_, hide rfl⟩
              have hab2 : ((a : Int) == (b : Int)) = eb := by rw [hab1.out, heb.out]
              rw [heb.out] at hfr
              by_cases hyes : (sw && (eb || !ab)) = true
              · rw [hyes] at hfr
                obtain ⟨cs, hcs⟩ := hrow.out
                obtain ⟨r, hre⟩ : ∃ r, Hid (r = qAt q a b) := ⟨_, hide rfl⟩
                have hr : Hid ((rF q n a b)[a]? = some r) := hide (by rw [rF_self hlta, hre.out])
                obtain ⟨c, hc, hcp⟩ := hcs.at_ hr.out
                obtain ⟨Ar, kr, rfl⟩ := row_form hcp.row
                have hrl : r.length ≤ n := by have := qAt_len (q := q) (t := a) (b := b); rw [hre.out]; omega
                have hrw := hcs.row
                rw [rF_len] at hrw
                have r1 : V2.cell? ⟨X.heap.size, a, none⟩ = some (.slice Ar r.length kr) := by rw [World.ownsRow.cellAt hrw a (by omega)]; exact hc
                have hbI : Hid (I64 b) := hide (i64_mk (by omega) (by omega))
                have hnx : Hid ((rF q n a b).set a (r ++ [(b : Int)]) = rF q n a (b + 1)) := hide (by rw [hre.out]; exact rF_push hlta hfr.out)
                replace hrw := hide hrw
                replace hcp := hide hcp
                replace hcs := hide hcs
                replace hc := hide hc
                clear hrow
                have hbs := hbel.size
                have hswt : sw = true := by cases sw <;> simp_all
                have hcond : eb = true ∨ eb = false ∧ ab = false := by cases eb <;> cases ab <;> simp_all
                replace hyes := hide hyes
                replace hfr := hide hfr
                subst hswt
                rcases hcond with hcond | ⟨hcond, hcond2⟩
                all_goals
                  subst hcond
                  try subst hcond2
                  go_wp2_with (first
                  | (at_builtin
                     refine wpList_append_lies _ rfl (.tmp 76) (.tmp 78) _ rfl X.heap.size 3 i0 _ 1 8 Try.underlying22 hi0.out hz0.out hz1.out hz2.out rfl (by omega) (.slice Ar r.length kr) _ _ rfl (hcp.out.row.alloc _) ⟨V2.heap.size, 0, none⟩ 1 1 [.int .i64 b] rfl rfl ?c1 ?c2 (by omega) ?c3 ?c4 ?c5 (V2.heap.size + 1) ?c6 ?_
                     case c1 => exact World.news_of_block (cs := #[.int .i64 b]) (t := 3) (fr := (0, 0)) (heap_alloc_new V2 _)
                     case c2 => simp [Value.oneCell']
                     case c3 => unfold maxLen; omega
                     case c4 => omega
                     case c5 => first | (simp; omega) | simp | omega
                     case c6 => simp
                     intro gq cq w1 hown1 hg1 hgq hlt1
                     have hbw1 : Below X.heap.size X w1 := (hbel.alloc hbs _).grown hg1 (by simp; omega) (fun k hk => (row_lt hcp.out.row hk).1)
                     have hbut := But.grown hcp.out.row hg1
                     have hL := hide (OwnL.app hcs.out hr.out hc.out hbI.out (fun k hk => by cases hk) hown1 hg1 hgq (rF_len ..).symm)
                     have hrw1 := hbut.row (by decide) hrw.out
                     have fz1 : w1.frozen? ⟨X.heap.size, a, none⟩ = false := World.ownsRow.frozenAt hrw1 a
                     have rz1 : w1.cell? ⟨X.heap.size, a, none⟩ = some (.slice Ar r.length kr) := by rw [World.ownsRow.cellAt hrw1 a (by omega)]; exact hc.out
                     have hbw2 := hide (hbw1.setCell (p := ⟨X.heap.size, a, none⟩) (Nat.le_refl _) (.slice (some ⟨gq, 0, none⟩) (r.length + 1) cq))
                     replace hrw1 := hide hrw1
                     replace hown1 := hide hown1
                     replace hg1 := hide hg1
                     replace hbut := hide hbut
                     replace hgq := hide hgq
                     replace hlt1 := hide hlt1))
                  go_roundw
                  case rel => exact ⟨b + 1, by go_num, hlt, hide ⟨_, by have := hL.out; rwa [hnx.out] at this⟩, hbw2.out⟩
                  case measure => simp [intOf]; omega
              · have hno : (sw && (eb || !ab)) = false := by simpa using hyes
                rw [hno] at hfr
                have hrow2 : Hid (∃ cs, OwnL V2 X.heap.size none (.slice (some ⟨X.heap.size, 0, none⟩) n n) (rF q n a (b + 1)) cs) := hide (by rw [← rF_skip hfr.out]; exact hrow.out)
                have hcond : sw = false ∨ sw = true ∧ eb = false ∧ ab = true := by cases sw <;> cases eb <;> cases ab <;> simp_all
                replace hyes := hide hyes
                replace hno := hide hno
                replace hfr := hide hfr
                rcases hcond with hcond | ⟨hcond, hcond2, hcond3⟩
                all_goals
                  subst hcond
                  try subst hcond2
                  try subst hcond3
                  go_wp2
                  go_roundw
                  case rel => exact ⟨b + 1, by go_num, hlt, hrow2, hbel⟩
                  case measure => simp [intOf]; omega
        · obtain rfl : b = n := by omega
          have hrow2 : Hid (∃ cs, OwnL V X.heap.size none (.slice (some ⟨X.heap.size, 0, none⟩) b b) (rF q b (a + 1) 0) cs) := hide (by rw [← rF_next]; exact hrow.out)
          go_wp2
          go_roundw
          case rel => exact ⟨a + 1, by go_num, hlta, hrow2, hbel⟩
          case measure => simp [intOf]; omega
    · obtain rfl : a = n := by omega
      obtain ⟨cs, h⟩ := hrow0.out
      rw [rF_end, hq.out] at h
      have hfin := hide (h.mono hwXs.out)
      have hw := hide (hwX.out V0 hbel0)
      replace h := hide h
      go_wp2
      go_ret
      exact ⟨X.heap.size, cs, rfl, hfin.out, hw.out⟩
end Go.Proofs.Yteeclobpajalmaa
