/- Texts of the chain, without what is not wanted: GrE, Mf. No condition but sizes. -/
import Derived.WalkKit
import Derived.Deep.Slices
import Derived.Deep.Draws
import Derived.ChangeSame
import Derived.ChangeOld
import Derived.OwnWalk
import Derived.Laws.OwnMore
import Derived.Deep.AppendLies
import Derived.Test.YtamjcafjdioidaaRows
import Derived.ProofKit
import Derived.OpenShut
import Derived.JoinedCond
import Derived.WalkSpells
import Derived.WalkLawsBesides
import Derived.Deep.RegionHeld3
import Derived.Deep.LoopGhost
import Derived.Deep.QuietTactic
import Derived.BigQuiet
import Derived.Deep.DeepCutAuto
import Derived.Deep.CutBlock
import Derived.Deep.RegionLaw
import Derived.StillTailTactics
import Derived.Test.YtamjcafjdioidaaUz01
import Derived.Test.YtamjcafjdioidaaUz02
import Derived.Test.YtamjcafjdioidaaUz03
import Derived.Test.YtamjcafjdioidaaUz04
import Derived.Test.YtamjcafjdioidaaUz05
namespace Go.Proofs.Ytamjcafjdioidaa
open Go.RowKit
set_option linter.unusedSimpArgs false
set_option linter.unusedVariables false
def IndexPost (l : List Int) (t : Int) (w : World) (e : Ending) (w' : World) : Prop := ∃ r : Int, e = .returned (.int .i64 r) ∧ (0 ≤ r ↔ t ∈ l) ∧ Below w.heap.size w w'
set_option maxHeartbeats 800000 in
theorem index_any (u : Value) (l : List Int) (t : Int) (w : World) (B : Nat) (hB : B ≤ w.heap.size) (ha : RInts.rep w B [u] l) :
  Calls Try.prog 83 #[u, .int .i64 t] w (IndexPost l t w) := by
 obtain ⟨A1, c1, h1, hm1, ga⟩ := Rp.slice1_open (RInts.later ha (Below.refl _ _) hB)
 cases h1
 replace ga := hide ga
 have hself := Below.refl w.heap.size w
 go_enter Try.func83, Try.ntmps83
 go_wp2
 go_loopw [8] (fun i wr => ∃ k : Nat, k ≤ l.length ∧ i = .int .i64 k ∧ Hid (t ∉ l.take k) ∧ Below w.heap.size w wr) (fun i _ => l.length - (intOf i).toNat)
 case atStart => exact ⟨0, Nat.zero_le _, rfl, hide (by simp), hself⟩
 case round =>
  obtain ⟨k, hk, rfl, hall, hbel⟩ := hrel
  by_cases hlt : k < l.length
  ·obtain ⟨b1, o1, rfl, he1⟩ := ga.out (by omega)
   obtain ⟨x, hx⟩ := get_ex hlt
   obtain ⟨_, ⟨hr1, _⟩, p0⟩ := he1 k x hx.out
   cases hr1
   clear he1
   cases hxy : (t == x) with
   | true =>
    have hin : Hid (t ∈ l) := hide (by rw [eq_of_beq hxy]; exact List.mem_of_getElem? hx.out)
    go_wp2
    go_ret
    exact ⟨_, rfl, ⟨fun _ => hin.out, fun _ => by omega⟩, hbel⟩
   | false =>
    have hin : Hid (t ∉ l.take (k + 1)) := hide (by
     rw [take_snoc hx.out]
     intro h
     rcases List.mem_append.1 h with h | h
     ·exact hall.out h
     ·rw [List.mem_singleton.1 h] at hxy; simp at hxy)
    go_wp2
    go_roundw
    case rel => exact ⟨k + 1, hlt, by go_num, hin, hbel⟩
    case measure => simp [intOf]; omega
  ·go_wp2
   go_ret
   exact ⟨_, rfl, ⟨fun h => by omega, fun h => (hall.out (by rwa [List.take_of_length_le (by omega)])).elim⟩, hbel⟩
set_option maxHeartbeats 800000 in
theorem contains_any (u : Value) (l : List Int) (t : Int) (w : World) (B : Nat) (hB : B ≤ w.heap.size) (ha : RInts.rep w B [u] l) :
  Calls Try.prog 92 #[u, .int .i64 t] w fun e w' => e = .returned (.bool (decide (t ∈ l))) ∧ Below w.heap.size w w' := by
 go_enter Try.func92, Try.ntmps92
 go_wp2_with fail
 refine (index_any u l t w B hB ha).mono ?_
 rintro e w1 ⟨r, rfl, hr, hb⟩
 replace hr := hide hr
 go_wp2
 go_ret
 exact ⟨ret_bool (by rw [Bool.eq_iff_iff]; simp [← hr.out]), hb⟩
end Go.Proofs.Ytamjcafjdioidaa
namespace Go.Proofs.Ytamjcafjdioidaa
open Go.RowKit
set_option linter.unusedSimpArgs false
set_option linter.unusedVariables false
theorem OwnI.snoc {w' : World} {B : Nat} {v' : Value} {l : List Int} {t : Int} (hl : ∀ x, x ∈ l → I64 x) (ht : I64 t) (h : w'.ownsRow B 3 1 v' (l.length + 1) (l.map (fun z => Value.int .i64 z) ++ [.int .i64 t])) : OwnI w' B v' (l ++ [t]) :=
 ⟨by simpa using h, fun x hx => by
  rcases List.mem_append.1 hx with hx | hx
  ·exact hl x hx
  ·rw [List.mem_singleton.1 hx]; exact ht⟩
def SuccPost (l : List Int) (w : World) (e : Ending) (w' : World) : Prop := ∃ v, e = .returned v ∧ OwnI w' w.heap.size v l ∧ Below w.heap.size w w'
set_option maxRecDepth 100000 in
set_option maxHeartbeats 6400000 in
theorem succs_any (f : Fun) (b : Int) (c1 c2 : Value) (w : World) (B : Nat) (hB : B ≤ w.heap.size) (hf : RFun.rep w B [.string f.name, c1, .int .i64 f.ret, c2] f) (hs : Small f) :
  Calls Try.prog 64 #[f.v c1 c2, .int .i64 b] w (SuccPost (succsF f.blocks b) w) := by
 obtain ⟨hp, hb⟩ := fun_open (RFun.later hf (Below.refl _ _) hB)
 obtain ⟨A1, k1, h1, -, -⟩ := Rp.slice1_open hp
 obtain ⟨A2, k2, h2, hm2, gb⟩ := Rp.slice1_open hb
 cases h1; cases h2
 replace gb := hide gb
 clear hp hb hf
 obtain ⟨i0, hi0, hz0, hz1, hz2⟩ := cinfo_parts cinfo_int
 replace hi0 := hide hi0
 replace hz0 := hide hz0
 replace hz1 := hide hz1
 replace hz2 := hide hz2
 obtain ⟨n2, hn2⟩ : ∃ n, Hid (n = f.blocks.length) := ⟨_, hide rfl⟩
 rw [← hn2.out] at hm2 ⊢
 obtain ⟨W, hW, hwW, hWs, hx⟩ := boxes1 w #[.string f.name, .slice A1 f.params.length k1, .int .i64 f.ret, .slice A2 n2 k2] 32
 have x3 := hx 3 _ rfl
 clear hx
 have hws : w.heap.size ≤ W.heap.size := by omega
 replace hWs := hide hWs
 have hself := Below.refl W.heap.size W
 replace hs := hide hs
 by_cases h0 : 0 ≤ b
 case neg =>
  have hlt0 : b < 0 := by omega
  have hsp : Hid (succsF f.blocks b = []) := hide (by unfold succsF; rw [if_neg h0])
  go_enter Try.func64, Try.ntmps64
  go_wp2
  go_ret
  exact ⟨_, rfl, by rw [hsp.out]; exact OwnI.nil_, hwW⟩
 obtain ⟨k, rfl⟩ := Int.eq_ofNat_of_zero_le h0
 by_cases hlt : k < n2
 case neg =>
  have hsp : Hid (succsF f.blocks k = []) := hide (by unfold succsF; rw [if_pos h0, Int.toNat_natCast, List.getElem?_eq_none (by rw [← hn2.out]; omega)])
  have hk1 : ¬ (k : Int) < 0 := by omega
  have hk2 : (k : Int) ≥ (n2 : Int) := by omega
  go_enter Try.func64, Try.ntmps64
  go_wp2
  go_ret
  exact ⟨_, rfl, by rw [hsp.out]; exact OwnI.nil_, hwW⟩
 obtain ⟨x, hx⟩ := get_ex (l := f.blocks) (k := k) (by rw [← hn2.out]; exact hlt)
 obtain ⟨b1, o1, rfl, he1⟩ := gb.out (by rw [← hn2.out]; omega)
 obtain ⟨d1, hr1, hd1⟩ := he1 k x hx.out
 obtain ⟨A3, c3, h3, hm3, ga3⟩ := Rp.slice_open hr1
 cases h3
 replace ga3 := hide ga3
 have hd1' : ∀ w', Below W.heap.size W w' → w'.cell? ⟨b1, o1 + k, none⟩ = some (.slice A3 x.length c3) := fun w' h => hd1 w' (hwW.trans (h.mono hws))
 clear hd1 hr1 he1
 obtain ⟨nx, hnx⟩ : ∃ n, Hid (n = x.length) := ⟨_, hide rfl⟩
 rw [← hnx.out] at hm3 hd1'
 have hk1 : ¬ (k : Int) < 0 := by omega
 have hk2 : ¬ (k : Int) ≥ (n2 : Int) := by omega
 by_cases hx0 : nx = 0
 ·have hsp : Hid (succsF f.blocks k = []) := hide (by unfold succsF; rw [if_pos h0, Int.toNat_natCast, hx.out]; show succsB _ x = []; rw [List.eq_nil_of_length_eq_zero (hnx.out.symm.trans hx0)]; rfl)
  subst hx0
  go_enter Try.func64, Try.ntmps64
  go_wp2
  go_ret
  exact ⟨_, rfl, by rw [hsp.out]; exact OwnI.nil_, hwW⟩
 obtain ⟨nl, rfl⟩ : ∃ m, nx = m + 1 := ⟨nx - 1, by omega⟩
 obtain ⟨ins, hin1, hin2⟩ := last_at (x := x) (by rw [← hnx.out]; omega)
 replace hin1 := hide hin1
 rw [← hnx.out, Nat.add_sub_cancel] at hin2
 replace hin2 := hide hin2
 obtain ⟨b3, o3, rfl, he3⟩ := ga3.out (by rw [← hnx.out]; omega)
 obtain ⟨_, _, ⟨a1, a2, rfl, ha, hto, hwf⟩, hc⟩ := he3 nl ins hin2.out
 obtain ⟨A5, k5, h5, -, -⟩ := Rp.slice_open ha
 obtain ⟨A6, k6, h6, hm6, gt⟩ := Rp.slice1_open hto
 cases h5; cases h6
 replace gt := hide gt
 obtain ⟨q0, q1, q2, q3, q4, q5, q6⟩ := (hc.later hwW hws).seven
 have hsm : ins.to.length ≤ 2000000 := ((hs.out.code x (List.mem_of_getElem? hx.out)).2 ins (List.mem_of_getElem? hin2.out)).2
 have hi64 : Hid (∀ y, y ∈ ins.to → I64 y) := hide (ints_src (RInts.later hto (Below.refl _ _) (Nat.le_refl _))).2.2.1
 clear he3 hc ha hto hwf
 have hkind : Hid (succsF f.blocks k = if ins.op = 31 ∨ ins.op = 32 then succsL n2 ins.to else []) := hide (by unfold succsF; rw [if_pos h0, Int.toNat_natCast, hx.out]; show succsB _ x = _; unfold succsB; rw [hin1.out, ← hn2.out])
 have e0 : ((nl + 1 : Nat) : Int) - 1 = (nl : Int) := by omega
 have e1 : (((nl + 1 : Nat) : Int) == 0) = false := by rw [beq_eq_false_iff_ne]; omega
 obtain ⟨X, hX, hWX, hXs, hz⟩ := boxes1 W #[.int .i64 ins.op, .int .i64 ins.reg, .int .i64 ins.ty, .int .i64 ins.num, .int .i64 ins.flags, .slice A5 ins.args.length k5, .slice A6 ins.to.length k6] 39
 have z0 : ∀ w', Below X.heap.size X w' → w'.cell? ⟨W.heap.size, 0, none⟩ = some (.int .i64 ins.op) := hz 0 _ rfl
 have z6 : ∀ w', Below X.heap.size X w' → w'.cell? ⟨W.heap.size, 6, none⟩ = some (.slice A6 ins.to.length k6) := hz 6 _ rfl
 clear hz
 have hWXs : W.heap.size ≤ X.heap.size := by omega
 have x3X : ∀ w', Below X.heap.size X w' → w'.cell? ⟨w.heap.size, 3, none⟩ = some (.slice (some ⟨b1, o1, none⟩) n2 k2) := fun w' h => x3 w' (hWX.trans (h.mono hWXs))
 have hwX := hide (hwW.trans (hWX.mono hws))
 have hselfX := Below.refl X.heap.size X
 replace hXs := hide hXs
 replace hWX := hide hWX
 by_cases hbr : ins.op = 31 ∨ ins.op = 32
 case neg =>
  have hsp : Hid (succsF f.blocks k = []) := hide (by rw [hkind.out, if_neg hbr])
  replace hbr := hide hbr
  cases hen : iends ins.op with
  | false =>
   have hcE : Hid (∀ w, Calls Try.prog 91 #[.int .i64 ins.op] w fun e w' => e = .returned (.bool false) ∧ w = w') := hide (fun w => by have := ends_any ins.op w; rwa [hen] at this)
   replace hen := hide hen
   go_enter Try.func64, Try.ntmps64
   go_upto_region 5 with (fail)
   clear hX hW x3 hself q0 q1 q2 q3 q4 q5 q6 hd1'
   go_wp2_with (go_at_call 91; refine (hcE.out _).mono ?_; rintro e w' ⟨rfl, rfl⟩)
   go_ret
   exact ⟨_, rfl, by rw [hsp.out]; exact OwnI.nil_, hwX.out⟩
  | true =>
   have hcE : Hid (∀ w, Calls Try.prog 91 #[.int .i64 ins.op] w fun e w' => e = .returned (.bool true) ∧ w = w') := hide (fun w => by have := ends_any ins.op w; rwa [hen] at this)
   have hgt : ins.op > 32 := by simp [iends] at hen; have := hbr.out; omega
   replace hen := hide hen
   go_enter Try.func64, Try.ntmps64
   go_upto_region 5 with (fail)
   clear hX hW x3 hself q0 q1 q2 q3 q4 q5 q6 hd1'
   go_wp2_with (go_at_call 91; refine (hcE.out _).mono ?_; rintro e w' ⟨rfl, rfl⟩)
   go_ret
   exact ⟨_, rfl, by rw [hsp.out]; exact OwnI.nil_, hwX.out⟩
 have hsp : Hid (succsF f.blocks k = succsL n2 ins.to) := hide (by rw [hkind.out, if_pos hbr])
 have hen : iends ins.op = true := by simp [iends]; omega
 have hgt : ¬ ins.op > 32 := by omega
 have hcE : Hid (∀ w, Calls Try.prog 91 #[.int .i64 ins.op] w fun e w' => e = .returned (.bool true) ∧ w = w') := hide (fun w => by have := ends_any ins.op w; rwa [hen] at this)
 replace hen := hide hen
 replace hbr := hide hbr
 go_enter Try.func64, Try.ntmps64
 go_upto_region 5 with (fail)
 clear hX hW x3 hself q0 q1 q2 q3 q4 q5 q6 hd1'
 go_wp2_with (go_at_call 91; refine (hcE.out _).mono ?_; rintro e w' ⟨rfl, rfl⟩)
 obtain ⟨nt, hnt⟩ : ∃ n, Hid (n = ins.to.length) := ⟨_, hide rfl⟩
 rw [← hnt.out] at z6 hm6 hsm ⊢
 go_loopw [7, 53] (fun l i wr => ∃ j : Nat, j ≤ nt ∧ i = .int .i64 j ∧ Hid (OwnI wr X.heap.size l (succsL n2 (ins.to.take j))) ∧ Below X.heap.size X wr) (fun _ i _ => nt - (intOf i).toNat)
 case atStart => exact ⟨0, Nat.zero_le _, rfl, hide OwnI.nil_, hselfX⟩
 case round =>
  obtain ⟨j, hj, rfl, hl, hbel⟩ := hrel
  by_cases hlt2 : j < nt
  ·obtain ⟨bt, ot, rfl, het⟩ := gt.out (by rw [← hnt.out]; omega)
   obtain ⟨t, ht⟩ := get_ex (l := ins.to) (k := j) (by rw [← hnt.out]; exact hlt2)
   obtain ⟨_, ⟨hrt, hti⟩, p0⟩ := het j t ht.out
   cases hrt
   replace p0 : ∀ w', Below X.heap.size X w' → w'.cell? ⟨bt, ot + j, none⟩ = some (.int .i64 t) := fun w' h => p0 w' (hwX.out.trans (h.mono hwX.out.size))
   clear het
   have hstep : Hid (succsL n2 (ins.to.take (j + 1)) = keepS n2 (succsL n2 (ins.to.take j)) t) := hide (succsL_take ht.out)
   obtain ⟨ac, hac⟩ : ∃ ac, Hid (succsL n2 (ins.to.take j) = ac) := ⟨_, hide rfl⟩
   have hlen : ac.length ≤ 2000000 := by rw [← hac.out]; exact Nat.le_trans (succsL_take_len _ _ _) (by rw [← hnt.out]; exact hsm)
   rw [hac.out] at hl hstep
   by_cases hin : 0 ≤ t ∧ t < n2
   ·obtain ⟨ht1, ht2⟩ := hin
    have ht0 : t ≥ 0 := ht1
    obtain ⟨g7, hg7, hf7⟩ : ∃ A C, u7 = .slice A ac.length C := row_form hl.out.row
    subst hf7
    have hbs := hbel.size
    have hselfr := Below.refl wr.heap.size wr
    have hcC : Hid (∀ w', Below wr.heap.size wr w' → Calls Try.prog 92 #[.slice g7 ac.length hg7, .int .i64 t] w' fun e w'' => e = .returned (.bool (decide (t ∈ ac))) ∧ Below w'.heap.size w' w'') := hide (fun w' h => contains_any _ ac t w' w'.heap.size (Nat.le_refl _) (hl.out.kept fun k _ hk => h.block k hk).rep)
    replace p0 : ∀ w', Below wr.heap.size wr w' → w'.cell? ⟨bt, ot + j, none⟩ = some (.int .i64 t) := fun w' h => p0 w' (hbel.trans (h.mono hbs))
    have x3r : ∀ w', Below wr.heap.size wr w' → w'.cell? ⟨w.heap.size, 3, none⟩ = some (.slice (some ⟨b1, o1, none⟩) n2 k2) := fun w' h => x3X w' (hbel.trans (h.mono hbs))
    cases hmem : decide (t ∈ ac) with
    | true =>
     have hsame : Hid (succsL n2 (ins.to.take (j + 1)) = ac) := hide (by rw [hstep.out, keepS_no (fun h => h.2.2 (of_decide_eq_true hmem))])
     rw [hmem] at hcC
     replace hmem := hide hmem
     go_wp2_with (first | (go_at_call 92; refine (hcC.out _ hselfr).mono ?_; rintro e w5 ⟨rfl, hb5⟩))
     go_roundw
     case rel => exact ⟨j + 1, hlt2, by go_num, hide (by rw [hsame.out]; exact hl.out.kept fun k _ hk => hb5.block k hk), hbel.trans (hb5.mono hbs)⟩
     case measure => simp [intOf]; omega
    | false =>
     have hsame : Hid (succsL n2 (ins.to.take (j + 1)) = ac ++ [t]) := hide (by rw [hstep.out, keepS_yes ⟨ht1, ht2, of_decide_eq_false hmem⟩])
     rw [hmem] at hcC
     replace hmem := hide hmem
     have hti2 := hide hti
     go_wp2_with (first
      | (go_at_call 92
         refine (hcC.out _ hselfr).mono ?_
         rintro e w5 ⟨rfl, hb5⟩
         have hl5 := hide (hl.out.kept fun k _ hk => hb5.block k hk)
         have hbel5 := hbel.trans (hb5.mono hbs)
         have hbs5 := hbel5.size)
      | (at_builtin
         refine wpList_append_own _ rfl (.tmp 72) (.tmp 74) _ rfl X.heap.size 3 i0 _ 1 8 Try.underlying29 hi0.out hz0.out hz1.out hz2.out rfl (by omega) (.slice g7 ac.length hg7) _ _ rfl (hl5.out.row.alloc _) ⟨w5.heap.size, 0, none⟩ 1 1 [.int .i64 t] rfl rfl ?c1 ?c2 ?c3 ?c4 ?c5 ?_
         case c1 => exact World.news_of_block (cs := #[.int .i64 t]) (t := 3) (fr := (0, 0)) (heap_alloc_new w5 _)
         case c2 => simp [Value.oneCell']
         case c3 => unfold maxLen; omega
         case c4 => omega
         case c5 => first | (simp; omega) | simp | omega
         intro v1 w1 hown1 hg1 _
         have hbw1 : Below X.heap.size X w1 := (hbel5.alloc hbs5 _).grown hg1 (by simp; omega) (fun k hk => (row_lt hl5.out.row hk).1)
         have hL := hide (OwnI.snoc hl5.out.ok hti2.out hown1)
         replace hown1 := hide hown1
         replace hg1 := hide hg1))
     go_roundw
     case rel => exact ⟨j + 1, hlt2, by go_num, hide (by rw [hsame.out]; exact hL.out), hbw1⟩
     case measure => simp [intOf]; omega
   ·have hsame : Hid (succsL n2 (ins.to.take (j + 1)) = ac) := hide (by rw [hstep.out, keepS_no (fun h => hin ⟨h.1, h.2.1⟩)])
    by_cases ht0 : t ≥ 0
    ·have ht1 : ¬ t < (n2 : Int) := by omega
     go_wp2
     go_roundw
     case rel => exact ⟨j + 1, hlt2, by go_num, hide (by rw [hsame.out]; exact hl.out), hbel⟩
     case measure => simp [intOf]; omega
    ·go_wp2
     go_roundw
     case rel => exact ⟨j + 1, hlt2, by go_num, hide (by rw [hsame.out]; exact hl.out), hbel⟩
     case measure => simp [intOf]; omega
  ·obtain rfl : j = nt := by omega
   go_wp2
   go_ret
   exact ⟨_, rfl, by rw [hsp.out]; have := hl.out; rw [List.take_of_length_le (by rw [hnt.out]; exact Nat.le_refl _)] at this; exact this.mono hwX.out.size, hwX.out.trans (hbel.mono hwX.out.size)⟩
end Go.Proofs.Ytamjcafjdioidaa
namespace Go.Proofs.Ytamjcafjdioidaa
open Go.RowKit
set_option linter.unusedSimpArgs false
set_option linter.unusedVariables false
structure RevAt (l : List Int) (k : Nat) (ys : List Int) : Prop where
 len : ys.length = l.length
 val : ∀ p, p < l.length → ys[p]? = if k ≤ p ∧ p + k < l.length then l[p]? else l[l.length - 1 - p]?
theorem revAt_zero (l : List Int) : RevAt l 0 l := ⟨rfl, fun p hp => by rw [if_pos ⟨Nat.zero_le _, by omega⟩]⟩
theorem revAt_end {l ys : List Int} {k : Nat} (h : RevAt l k ys) (hk : l.length ≤ 2 * k + 1) : ys = l.reverse := by
 apply List.ext_getElem?
 intro p
 rcases Nat.lt_or_ge p l.length with hp | hp
 ·rw [h.val p hp, List.getElem?_reverse hp]
  split
  ·rename_i hc
   rw [show l.length - 1 - p = p by omega]
  ·rfl
 ·rw [List.getElem?_eq_none (by rw [h.len]; exact hp), List.getElem?_eq_none (by rw [List.length_reverse]; exact hp)]
theorem revAt_step {l ys : List Int} {k j : Nat} {x y : Int} (h : RevAt l k ys) (hj : j + k + 1 = l.length) (hkj : k < j) (hx : ys[k]? = some x) (hy : ys[j]? = some y) : RevAt l (k + 1) ((ys.set k y).set j x) := by
 have hx' := h.val k (by omega)
 rw [if_pos ⟨Nat.le_refl _, by omega⟩, hx] at hx'
 have hy' := h.val j (by omega)
 rw [if_pos ⟨by omega, by omega⟩, hy] at hy'
 refine ⟨by rw [List.length_set, List.length_set, h.len], fun p hp => ?_⟩
 rw [List.getElem?_set, List.getElem?_set]
 by_cases h1 : j = p
 ·subst h1
  rw [if_pos rfl, if_pos (by rw [List.length_set, h.len]; exact hp), if_neg (by omega), show l.length - 1 - j = k by omega, hx']
 ·rw [if_neg h1]
  by_cases h2 : k = p
  ·subst h2
   rw [if_pos rfl, if_pos (by rw [h.len]; exact hp), if_neg (by omega), show l.length - 1 - k = j by omega, hy']
  ·rw [if_neg h2, h.val p hp]
   by_cases h3 : k ≤ p ∧ p + k < l.length
   ·rw [if_pos h3, if_pos (by omega)]
   ·rw [if_neg h3, if_neg (by omega)]
theorem map_set (l : List Int) (k : Nat) (x : Int) : (l.map fun z => Value.int .i64 z).set k (.int .i64 x) = (l.set k x).map fun z => Value.int .i64 z := by simp [List.map_set]
def RevPost (v : Value) (l : List Int) (B : Nat) (w : World) (e : Ending) (w' : World) : Prop := e = .returned (.tuple #[]) ∧ OwnI w' B v l.reverse ∧ Only (fun k => v.ownBlock = some k) w.heap.size w w'
set_option maxRecDepth 100000 in
set_option maxHeartbeats 3200000 in
theorem reverse_any (v : Value) (l : List Int) (w : World) (B : Nat) (hv : OwnI w B v l) (hs : l.length ≤ 2000000) :
  Calls Try.prog 65 #[v] w (RevPost v l B w) := by
 obtain ⟨A, C, rfl⟩ := row_form hv.row
 obtain ⟨n, hn⟩ : ∃ n, Hid (n = l.length) := ⟨_, hide rfl⟩
 rw [← hn.out] at hs ⊢
 rw [← hn.out] at hv
 have hok := hide hv.ok
 have hrow0 := hide hv.row
 rw [← hn.out] at hrow0
 clear hv
 go_enter Try.func65, Try.ntmps65
 go_wp2
 go_loopw [2, 3] (fun a b wr => ∃ k : Nat, 2 * k ≤ n + 1 ∧ a = .int .i64 k ∧ b = .int .i64 ((n : Int) - 1 - k) ∧ Hid (∃ ys, RevAt l k ys ∧ wr.ownsRow B 3 1 (.slice A n C) n (ys.map fun z => Value.int .i64 z)) ∧ Only (fun k => Value.ownBlock (.slice A n C) = some k) w.heap.size w wr) (fun a _ _ => n - (intOf a).toNat)
 case atStart => exact ⟨0, by omega, rfl, by go_num, hide ⟨l, revAt_zero l, hrow0.out⟩, Only.refl _ _ _⟩
 case round =>
  obtain ⟨k, hk, rfl, rfl, hrow, hbel⟩ := hrel
  obtain ⟨ys, hrev, hx⟩ := hrow.out
  by_cases hlt : 2 * k + 1 < n
  ·obtain ⟨g, rfl⟩ : ∃ g, A = some ⟨g, 0, none⟩ := by
    rcases hx.2 with ⟨h1, h2⟩ | ⟨gp, cp, cur, h1, h2, _⟩
    ·omega
    ·cases h1; exact ⟨gp, rfl⟩
   obtain ⟨j, hj⟩ : ∃ j : Nat, j + k + 1 = n := ⟨n - 1 - k, by omega⟩
   have e1 : (n : Int) - 1 - k = (j : Int) := by omega
   have hyl : ys.length = n := hrev.len.trans hn.out.symm
   obtain ⟨x, hx1⟩ := get_ex (l := ys) (k := k) (by omega)
   obtain ⟨y, hy1⟩ := get_ex (l := ys) (k := j) (by omega)
   have r0 : wr.cell? ⟨g, k, none⟩ = some (.int .i64 x) := by rw [World.ownsRow.cellAt hx k (by omega), List.getElem?_map, hx1.out]; rfl
   have r1 : wr.cell? ⟨g, j, none⟩ = some (.int .i64 y) := by rw [World.ownsRow.cellAt hx j (by omega), List.getElem?_map, hy1.out]; rfl
   have f0 : wr.frozen? ⟨g, k, none⟩ = false := World.ownsRow.frozenAt hx k
   have f1 : wr.frozen? ⟨g, j, none⟩ = false := World.ownsRow.frozenAt hx j
   have st := (World.ownsRow.stored (World.ownsRow.stored hx k (.int .i64 y)).1 j (.int .i64 x)).1
   rw [map_set, map_set] at st
   replace st := hide st
   have hrev2 := hide (revAt_step hrev (by rw [← hn.out]; exact hj) (by omega) hx1.out hy1.out)
   have f2 : (wr.setCell ⟨g, k, none⟩ (.int .i64 y)).frozen? ⟨g, j, none⟩ = false := World.ownsRow.frozenAt (World.ownsRow.stored hx k (.int .i64 y)).1 j
   have hb9 := hide ((hbel.setCell (p := ⟨g, k, none⟩) (.inl rfl) (.int .i64 y)).setCell (p := ⟨g, j, none⟩) (.inl rfl) (.int .i64 x))
   rw [e1]
   have hkj : (k : Int) < (j : Int) := by omega
   have hne : k ≠ j := by omega
   clear hrow hbel
   replace hx := hide hx
   replace hrev := hide hrev
   replace hyl := hide hyl
   replace e1 := hide e1
   go_upto_region 3 with (fail)
   go_region
   go_wp2
   go_roundw
   case rel => exact ⟨k + 1, by omega, by go_num, by have := e1.out; congr 1; omega, hide ⟨_, hrev2.out, st.out⟩, hb9.out.drew⟩
   case measure => simp [intOf]; omega
  ·have hend : Hid (ys = l.reverse) := hide (revAt_end hrev (by rw [← hn.out]; omega))
   have hnlt : ¬ (k : Int) < (n : Int) - 1 - k := by omega
   replace hx := hide hx
   go_wp2
   go_end0
   refine ⟨rfl, ⟨by rw [List.length_reverse, ← hn.out, ← hend.out]; exact hx.out, fun x hx' => hok.out x (List.mem_reverse.1 hx')⟩, hbel⟩
end Go.Proofs.Ytamjcafjdioidaa

namespace Go.Proofs.Ytamjcafjdioidaa
open Go.RowKit
set_option linter.unusedSimpArgs false
set_option linter.unusedVariables false
def TB (d : Value) (xs : List Value) (ess : List (List (Value × Value))) (k : Nat) : Prop := d.ownBlock = some k ∨ (∃ x, x ∈ xs ∧ x.ownBlock = some k) ∨ ∃ es e, es ∈ ess ∧ e ∈ es ∧ (e.1.ownBlock = some k ∨ e.2.ownBlock = some k)
structure MF (w : World) (T : Nat → Prop) (N : Nat) (f : Fun) (c d : Value) : Prop where
 box : w.heap[N]? = some (.cells #[.string f.name, c, .int .i64 f.ret, d] 32 (0, 0))
 tree : ∃ xs ess, OwnKd w 0 d f.blocks xs ess ∧ ∀ k, TB d xs ess k → T k
 par : OwnI w 0 c f.params
 far : ∀ k, c.ownBlock = some k → ¬ T k ∧ k ≠ N
 out : ¬ T N
 ret : I64 f.ret
 nm : f.name.size ≤ maxLen
section
variable {w w' : World} {T T' : Nat → Prop} {N : Nat} {f : Fun} {c d : Value} {xs : List Value} {ess : List (List (Value × Value))} {bs : List (List Ins)}
theorem OwnKd.tb_lt (h : OwnKd w 0 d bs xs ess) {k : Nat} (hk : TB d xs ess k) : k < w.heap.size := by
 rcases hk with h1 | ⟨x, hx, h1⟩ | ⟨es, e, he, hee, h1⟩
 ·exact (row_lt h.row h1).2.1
 ·exact (h.own_x hx k h1).2
 ·have h2 := h.own_at (List.mem_flatten.2 ⟨es, he, hee⟩) k
  rcases h1 with h1 | h1
  ·exact (h2.1 h1).2
  ·exact (h2.2 h1).2
theorem OwnKd.tb_kept (h : OwnKd w 0 d bs xs ess) (hk : ∀ k, k < w.heap.size → TB d xs ess k → w'.heap[k]? = w.heap[k]?) : OwnKd w' 0 d bs xs ess := by
 refine ⟨row_kept h.row fun k hv => hk k (row_lt h.row hv).2.1 (.inl hv), h.lene, fun i x b es hx hb he => ?_, h.ndx, h.nda, h.ndt⟩
 have h1 := h.inn i x b es hx hb he
 refine ⟨h1.len, row_kept h1.row fun k hv => hk k (row_lt h1.row hv).2.1 (.inr (.inl ⟨x, List.mem_of_getElem? hx, hv⟩)), fun j y e hy hee => ?_, h1.nda, h1.ndt⟩
 obtain ⟨g1, g2, g3⟩ := h1.inn j y e hy hee
 exact ⟨⟨row_kept g1.row fun k hv => hk k (row_lt g1.row hv).2.1 (.inr (.inr ⟨es, e, List.mem_of_getElem? he, List.mem_of_getElem? hee, .inl hv⟩)), g1.ok⟩, ⟨row_kept g2.row fun k hv => hk k (row_lt g2.row hv).2.1 (.inr (.inr ⟨es, e, List.mem_of_getElem? he, List.mem_of_getElem? hee, .inr hv⟩)), g2.ok⟩, g3⟩
theorem MF.kept (h : MF w T N f c d) (hk : ∀ k, k < w.heap.size → T k ∨ k = N ∨ c.ownBlock = some k → w'.heap[k]? = w.heap[k]?) : MF w' T N f c d := by
 obtain ⟨xs, ess, h1, h2⟩ := h.tree
 refine ⟨?_, ⟨xs, ess, h1.tb_kept fun k hk1 hk2 => hk k hk1 (.inl (h2 k hk2)), h2⟩, ⟨row_kept h.par.row fun k hv => hk k (row_lt h.par.row hv).2.1 (.inr (.inr hv)), h.par.ok⟩, h.far, h.out, h.ret, h.nm⟩
 rw [hk N (Array.getElem?_eq_some_iff.1 h.box).1 (.inr (.inl rfl))]
 exact h.box
theorem MF.below (h : MF w T N f c d) (hb : Below w.heap.size w w') : MF w' T N f c d := h.kept fun k hk _ => hb.block k hk
theorem MF.mono (h : MF w T N f c d) (hT : ∀ k, T k → T' k) (hN : ¬ T' N) (hc : ∀ k, c.ownBlock = some k → ¬ T' k) : MF w T' N f c d := by
 obtain ⟨xs, ess, h1, h2⟩ := h.tree
 exact ⟨h.box, ⟨xs, ess, h1, fun k hk => hT k (h2 k hk)⟩, h.par, fun k hk => ⟨hc k hk, (h.far k hk).2⟩, hN, h.ret, h.nm⟩
theorem MF.rep (h : MF w T N f c d) : RFun.rep w w.heap.size [.string f.name, c, .int .i64 f.ret, d] f := by
 obtain ⟨xs, ess, h1, -⟩ := h.tree
 exact ⟨c, d, rfl, h.par.rep, h1.own.rep, h.ret, h.nm⟩
theorem MF.lt (h : MF w T N f c d) : N < w.heap.size := (Array.getElem?_eq_some_iff.1 h.box).1
theorem MF.with_ (h : MF w T N f c d) (ho : Only T w.heap.size w w') (ht : OwnKd w' 0 d bs xs ess) (hT : ∀ k, TB d xs ess k → T k) : MF w' T N (setBlocks f bs) c d := by
 refine ⟨?_, ⟨xs, ess, ht, hT⟩, ⟨row_kept h.par.row fun k hv => ho.block k (row_lt h.par.row hv).2.1 (h.far k hv).1, h.par.ok⟩, h.far, h.out, h.ret, h.nm⟩
 rw [ho.block N h.lt h.out]
 exact h.box
end
theorem row_prefix {w : World} {B : Nat} {e : TypeId} {s g n m C : Nat} {ys zs : List Value} (h : w.ownsRow B e s (.slice (some ⟨g, 0, none⟩) n C) n (ys ++ zs)) (hy : ys.length = m * s) (hm : m ≤ n) : w.ownsRow B e s (.slice (some ⟨g, 0, none⟩) m C) m ys := by
 refine ⟨hy, .inr ?_⟩
 rcases h.2 with ⟨e1, -⟩ | ⟨g', cap, cur, e1, hb, hh, h1, h2, h3, h4⟩
 ·cases e1
 ·cases e1
  refine ⟨g, C, cur, rfl, hb, hh, by omega, h2, h3, ?_⟩
  have h5 := congrArg (List.take (m * s)) h4
  rw [List.take_take, List.take_left' hy] at h5
  rw [← h5, Nat.min_eq_left (Nat.mul_le_mul_right s hm)]
def idxI (l : List Int) (t : Int) : Int := if t ∈ l then (l.idxOf t : Int) else -1
theorem take_mem {l : List Int} {t : Int} {k : Nat} (h : t ∉ l.take k) (hk : l[k]? = some t) : l.idxOf t = k := by
 have h1 := (List.getElem?_eq_some_iff.1 hk).1
 have h2 : l = l.take k ++ t :: l.drop (k + 1) := by
  rw [List.getElem?_eq_getElem h1] at hk
  injection hk with hk
  rw [← hk, List.getElem_cons_drop, List.take_append_drop]
 rw [h2, List.idxOf_append, if_neg h, List.idxOf_cons_self, List.length_take]
 omega
set_option maxHeartbeats 800000 in
theorem index2_any (u : Value) (l : List Int) (t : Int) (w : World) (B : Nat) (hB : B ≤ w.heap.size) (ha : RInts.rep w B [u] l) :
  Calls Try.prog 83 #[u, .int .i64 t] w (fun e w' => e = .returned (.int .i64 (idxI l t)) ∧ Below w.heap.size w w') := by
 obtain ⟨A1, c1, h1, hm1, ga⟩ := Rp.slice1_open (RInts.later ha (Below.refl _ _) hB)
 cases h1
 replace ga := hide ga
 have hself := Below.refl w.heap.size w
 obtain ⟨ix, hix⟩ : ∃ ix, Hid (ix = idxI l t) := ⟨_, hide rfl⟩
 rw [← hix.out]
 go_enter Try.func83, Try.ntmps83
 go_wp2
 go_loopw [8] (fun i wr => ∃ k : Nat, k ≤ l.length ∧ i = .int .i64 k ∧ Hid (t ∉ l.take k) ∧ Below w.heap.size w wr) (fun i _ => l.length - (intOf i).toNat)
 case atStart => exact ⟨0, Nat.zero_le _, rfl, hide (by simp), hself⟩
 case round =>
  obtain ⟨k, hk, rfl, hall, hbel⟩ := hrel
  by_cases hlt : k < l.length
  ·obtain ⟨b1, o1, rfl, he1⟩ := ga.out (by omega)
   obtain ⟨x, hx⟩ := get_ex hlt
   obtain ⟨_, ⟨hr1, _⟩, p0⟩ := he1 k x hx.out
   cases hr1
   clear he1
   cases hxy : (t == x) with
   | true =>
    have hin : Hid (∀ w', Below w.heap.size w w' → Ending.returned (.int .i64 (k : Int)) = .returned (.int .i64 ix) ∧ Below w.heap.size w w') := hide (fun w' h => by
     have e := eq_of_beq hxy
     subst e
     refine ⟨?_, h⟩
     rw [hix.out, idxI, if_pos (List.mem_of_getElem? hx.out), take_mem hall.out hx.out])
    go_wp2
    go_ret
    exact hin.out _ hbel
   | false =>
    have hin : Hid (t ∉ l.take (k + 1)) := hide (by
     rw [take_snoc hx.out]
     intro h
     rcases List.mem_append.1 h with h | h
     ·exact hall.out h
     ·rw [List.mem_singleton.1 h] at hxy; simp at hxy)
    go_wp2
    go_roundw
    case rel => exact ⟨k + 1, hlt, by go_num, hin, hbel⟩
    case measure => simp [intOf]; omega
  ·have hin : Hid (∀ w', Below w.heap.size w w' → Ending.returned (.int .i64 (-1)) = .returned (.int .i64 ix) ∧ Below w.heap.size w w') := hide (fun w' h => by
    refine ⟨?_, h⟩
    rw [hix.out, idxI, if_neg (by have := hall.out; rwa [List.take_of_length_le (by omega)] at this)])
   go_wp2
   go_ret
   exact hin.out _ hbel
theorem box_cell9 {w : World} {N : Nat} {cs : Array Value} {t : TypeId} {fr : Nat × Nat} (h : w.heap[N]? = some (.cells cs t fr)) (j : Nat) {u : Value} (hu : cs[j]? = some u) : w.cell? ⟨N, j, none⟩ = some u := by
 simp [World.cell?, h, hu]
theorem on_fact {w : World} {Q : Nat → Prop} {B N j : Nat} {u : Value} (h : w.cell? ⟨N, j, none⟩ = some u) (hN : N < B) (hQ : ¬ Q N) : ∀ w', Only Q B w w' → w'.cell? ⟨N, j, none⟩ = some u := fun w' hw => (hw.cell (p := ⟨N, j, none⟩) hN hQ).trans h
theorem be_fact {w : World} {N j : Nat} {u : Value} (h : w.cell? ⟨N, j, none⟩ = some u) (hN : N < w.heap.size) : ∀ w', Below w.heap.size w w' → w'.cell? ⟨N, j, none⟩ = some u := fun w' hb => (hb.cell (p := ⟨N, j, none⟩) hN).trans h
theorem on_free {w : World} {Q : Nat → Prop} {B N j : Nat} (h : w.frozen? ⟨N, j, none⟩ = false) (hN : N < B) (hQ : ¬ Q N) : ∀ w', Only Q B w w' → w'.frozen? ⟨N, j, none⟩ = false := fun w' hw => by
 have e := hw.block N hN hQ
 simp only [World.frozen?, e] at h ⊢
 exact h
theorem ty_ne {w : World} {g g' : Nat} {T T' : TypeId} (h : ∃ c, w.heap[g]? = some (.cells c T (0, 0))) (h' : ∃ c, w.heap[g']? = some (.cells c T' (0, 0))) (hT : T ≠ T') : g ≠ g' := by
 rintro rfl
 obtain ⟨c, h⟩ := h
 obtain ⟨c', h'⟩ := h'
 rw [h] at h'
 cases h'
 exact hT rfl
theorem row_bound {w : World} {B : Nat} {e : TypeId} {s n : Nat} {v : Value} {ys : List Value} (h : w.ownsRow B e s v n ys) : n ≤ 9223372036854775807 := by
 rcases h.2 with ⟨-, h0⟩ | ⟨g, cap, cur, -, -, -, h1, h2, -⟩
 ·omega
 ·unfold maxLen at h2; omega
theorem row_free {w : World} {B : Nat} {e : TypeId} {s g n n' C : Nat} {ys : List Value} (h : w.ownsRow B e s (.slice (some ⟨g, 0, none⟩) n C) n' ys) (j : Nat) : w.frozen? ⟨g, j, none⟩ = false := by
 have hn : n = n' := by
  rcases h.2 with ⟨e1, -⟩ | ⟨g', cap, cur, e1, -⟩
  ·cases e1
  ·cases e1; rfl
 subst hn
 exact World.ownsRow.frozenAt h j
theorem OwnKd.blk_cell {w : World} {gd n C b : Nat} {bs : List (List Ins)} {xs : List Value} {ess : List (List (Value × Value))} {x : Value} (h : OwnKd w 0 (.slice (some ⟨gd, 0, none⟩) n C) bs xs ess) (hx : xs[b]? = some x) : w.cell? ⟨gd, b, none⟩ = some x := by
 have hn : n = bs.length := by
  rcases h.row.2 with ⟨e, -⟩ | ⟨g, cap, cur, e, -⟩
  ·cases e
  ·cases e; rfl
 subst hn
 have h1 := (List.getElem?_eq_some_iff.1 hx).1
 rw [World.ownsRow.cellAt h.row b (by rw [← h.lenx]; omega), hx]
end Go.Proofs.Ytamjcafjdioidaa
