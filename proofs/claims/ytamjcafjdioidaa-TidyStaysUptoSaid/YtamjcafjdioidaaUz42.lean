/- Texts of the chain, without what is not wanted: DoH. No condition but sizes. -/
import Derived.WalkKit
import Derived.Deep.Slices
import Derived.Deep.Draws
import Derived.ChangeSame
import Derived.ChangeOld
import Derived.OwnWalk
import Derived.Laws.OwnMore
import Derived.Deep.AppendLies
import Derived.Test.YtamjcafjdioidaaRows
import Derived.ProofKit
import Derived.OpenShut
import Derived.JoinedCond
import Derived.WalkSpells
import Derived.WalkLawsBesides
import Derived.Deep.RegionHeld3
import Derived.Deep.LoopGhost
import Derived.Deep.QuietTactic
import Derived.BigQuiet
import Derived.Deep.DeepCutAuto
import Derived.Deep.CutBlock
import Derived.StillTailTactics
import Derived.Deep.RegionLaw
import Derived.Test.YtamjcafjdioidaaUz01
import Derived.Test.YtamjcafjdioidaaUz02
import Derived.Test.YtamjcafjdioidaaUz04
import Derived.Test.YtamjcafjdioidaaUz05
import Derived.Test.YtamjcafjdioidaaUz06
import Derived.Test.YtamjcafjdioidaaUz14
import Derived.Test.YtamjcafjdioidaaUz15
import Derived.Test.YtamjcafjdioidaaUz16
import Derived.Test.YtamjcafjdioidaaUz40
namespace Go.Proofs.Ytamjcafjdioidaa
open Go.RowKit
set_option linter.unusedSimpArgs false
set_option linter.unusedVariables false
theorem cinfo_bools : (Try.prog.info? 53).map (fun i => (i.zero, i.size, i.bytes)) = some (some (.slice none 0 0), 1, 24) := by kernel_rfl
def rowT (T : Nat → Nat → Bool) (n a : Nat) : List Bool := (List.range n).map (T a)
theorem rowT_at (T : Nat → Nat → Bool) {n a b : Nat} (h : b < n) : (rowT T n a)[b]? = some (T a b) := by simp [rowT, h]
theorem rowT_len (T : Nat → Nat → Bool) (n a : Nat) : (rowT T n a).length = n := by simp [rowT]
def TabAt (T : Nat → Nat → Bool) (n : Nat) (w : World) (B g L a : Nat) : Prop := ∃ cs : List Value, w.ownsRow B 53 1 (.slice (some ⟨g, 0, none⟩) n n) n cs ∧
 ∀ k : Nat, k < a → ∃ gk, cs[k]? = some (.slice (some ⟨gk, 0, none⟩) n n) ∧ gk < L ∧ w.ownsRow 0 4 1 (.slice (some ⟨gk, 0, none⟩) n n) n ((rowT T n k).map Value.bool)
section
variable {T : Nat → Nat → Bool} {n B g L L' a : Nat} {w w' : World}
theorem TabAt.start (h : w.ownsRow B 53 1 (.slice (some ⟨g, 0, none⟩) n n) n (List.replicate n (Value.slice none 0 0))) : TabAt T n w B g L 0 := ⟨_, h, fun k hk => by omega⟩
theorem TabAt.below (h : TabAt T n w B g L a) (hb : Below w.heap.size w w') : TabAt T n w' B g L a := by
 obtain ⟨cs, h1, h2⟩ := h
 exact ⟨cs, row_kept h1 fun k hk => hb.block k (row_lt h1 hk).2.1, fun k hk => by
  obtain ⟨gk, h3, h4, h5⟩ := h2 k hk
  exact ⟨gk, h3, h4, row_kept h5 fun k hk => hb.block k (row_lt h5 hk).2.1⟩⟩
theorem TabAt.only (h : TabAt T n w B g L a) (ho : Only (fun k => k = L) w.heap.size w w') (hg : ∀ c t, w.heap[L]? = some (.cells c t (0, 0)) → t = 4) : TabAt T n w' B g L a := by
 obtain ⟨cs, h1, h2⟩ := h
 refine ⟨cs, row_kept h1 fun k hk => ho.block k (row_lt h1 hk).2.1 (fun e => ?_), fun k hk => ?_⟩
 ·obtain ⟨-, -, c5, h6⟩ := row_lt h1 hk
  have e' : k = L := e
  rw [e'] at h6
  exact absurd (hg _ _ h6) (by decide)
 ·obtain ⟨gk, h3, h4, h5⟩ := h2 k hk
  exact ⟨gk, h3, h4, row_kept h5 fun k hk => ho.block k (row_lt h5 hk).2.1 (fun e => by cases hk; have e' : gk = L := e; omega)⟩
theorem TabAt.put (h : TabAt T n w B g L a) (ha : a < n) : TabAt T n (w.setCell ⟨g, a, none⟩ (.slice (some ⟨L, 0, none⟩) n n)) B g L a ∧ ∃ cs : List Value, (w.setCell ⟨g, a, none⟩ (.slice (some ⟨L, 0, none⟩) n n)).cell? ⟨g, a, none⟩ = some (.slice (some ⟨L, 0, none⟩) n n) := by
 obtain ⟨cs, h1, h2⟩ := h
 have h3 := (World.ownsRow.stored h1 a (.slice (some ⟨L, 0, none⟩) n n)).1
 have hbut := But.stored (j := a) (u := .slice (some ⟨L, 0, none⟩) n n) h1
 have hl : cs.length = n := by have := h1.1; omega
 refine ⟨⟨_, h3, fun k hk => ?_⟩, [], ?_⟩
 ·obtain ⟨gk, h4, h5, h6⟩ := h2 k hk
  exact ⟨gk, by rw [List.getElem?_set_ne (by omega)]; exact h4, h5, hbut.row (by decide) h6⟩
 ·rw [World.ownsRow.cellAt h3 a (by omega), List.getElem?_set_self (by omega)]
theorem TabAt.more (h : TabAt T n w B g L a) (ha : a < n) (hc : w.cell? ⟨g, a, none⟩ = some (.slice (some ⟨L, 0, none⟩) n n)) (hr : w.ownsRow 0 4 1 (.slice (some ⟨L, 0, none⟩) n n) n ((rowT T n a).map Value.bool)) : TabAt T n w B g (L + 1) (a + 1) := by
 obtain ⟨cs, h1, h2⟩ := h
 have hl : cs.length = n := by have := h1.1; omega
 refine ⟨cs, h1, fun k hk => ?_⟩
 by_cases e : k = a
 ·subst e
  rw [World.ownsRow.cellAt h1 k (by omega)] at hc
  exact ⟨L, hc, by omega, hr⟩
 ·obtain ⟨gk, h4, h5, h6⟩ := h2 k (by omega)
  exact ⟨gk, h4, by omega, h6⟩
theorem TabAt.up (h : TabAt T n w B g L a) (hL : L ≤ L') : TabAt T n w B g L' a := by
 obtain ⟨cs, h1, h2⟩ := h
 exact ⟨cs, h1, fun k hk => by obtain ⟨gk, h4, h5, h6⟩ := h2 k hk; exact ⟨gk, h4, by omega, h6⟩⟩
theorem TabAt.reads (h : TabAt T n w B g L n) : ∀ a : Nat, a < n → ∃ ga, (∀ w', Below w.heap.size w w' → w'.cell? ⟨g, a, none⟩ = some (.slice (some ⟨ga, 0, none⟩) n n)) ∧ ∀ b : Nat, b < n → ∀ w', Below w.heap.size w w' → w'.cell? ⟨ga, b, none⟩ = some (.bool (T a b)) := by
 obtain ⟨cs, h1, h2⟩ := h
 intro a ha
 obtain ⟨ga, h3, h4, h5⟩ := h2 a ha
 refine ⟨ga, fun w' hb => ?_, fun b hb w' hw => ?_⟩
 ·rw [hb.cell (p := ⟨g, a, none⟩) (row_lt h1 rfl).2.1, World.ownsRow.cellAt h1 a (by omega)]
  exact h3
 ·rw [hw.cell (p := ⟨ga, b, none⟩) (row_lt h5 rfl).2.1]
  exact OwnB.cell h5 (rowT_at T hb) (by omega)
end
theorem made_slices {w : World} {B g n : Nat} {t : TypeId} {c : Value} (h : w.ownsRow B t 1 (.slice (some ⟨g, 0, none⟩) n n) n (madeCells #[c] n).toList) : w.ownsRow B t 1 (.slice (some ⟨g, 0, none⟩) n n) n (List.replicate n c) := by
 rwa [toList_madeCells_one] at h
def TablePost (sc : Int → List Int) (o : List Int) (n : Nat) (w : World) (e : Ending) (w' : World) : Prop := ∃ g L, e = .returned (.slice (some ⟨g, 0, none⟩) n n) ∧ TabAt (fun a b => domB sc o a b) n w' w.heap.size g L n ∧ Below w.heap.size w w'
def RowAt (T : Nat → Nat → Bool) (n a b : Nat) (w : World) (g : Nat) : Prop := ∃ l : List Bool, w.ownsRow 0 4 1 (.slice (some ⟨g, 0, none⟩) n n) n (l.map Value.bool) ∧ ∀ k : Nat, k < b → l[k]? = some (T a k)
theorem RowAt.set_ {T : Nat → Nat → Bool} {n a b g : Nat} {w : World} (h : RowAt T n a b w g) (hb : b < n) {v : Bool} (hv : T a b = v) : RowAt T n a (b + 1) (w.setCell ⟨g, b, none⟩ (.bool v)) g := by
 obtain ⟨l, h1, h2⟩ := h
 have h3 := (World.ownsRow.stored h1 b (.bool v)).1
 rw [bmap_set] at h3
 have hl : l.length = n := by have := h1.1; simpa using this
 refine ⟨_, h3, fun k hk => ?_⟩
 by_cases e : b = k
 ·subst e; rw [List.getElem?_set_self (by omega), hv]
 ·rw [List.getElem?_set_ne e]; exact h2 k (by omega)
theorem RowAt.whole {T : Nat → Nat → Bool} {n a g : Nat} {w : World} (h : RowAt T n a n w g) : w.ownsRow 0 4 1 (.slice (some ⟨g, 0, none⟩) n n) n ((rowT T n a).map Value.bool) := by
 obtain ⟨l, h1, h2⟩ := h
 have hl : l.length = n := by have := h1.1; simpa using this
 have e : l = rowT T n a := List.ext_getElem? fun k => by
  by_cases hk : k < n
  ·rw [h2 k hk, rowT_at T hk]
  ·rw [List.getElem?_eq_none (by omega), List.getElem?_eq_none (by rw [rowT_len]; omega)]
 rwa [e] at h1
theorem RowAt.below {T : Nat → Nat → Bool} {n a b g : Nat} {w w' : World} (h : RowAt T n a b w g) (hb : Below w.heap.size w w') : RowAt T n a b w' g := by
 obtain ⟨l, h1, h2⟩ := h
 exact ⟨l, row_kept h1 fun k hk => hb.block k (row_lt h1 hk).2.1, h2⟩
set_option maxRecDepth 100000 in
set_option maxHeartbeats 12800000 in
theorem table_any (f : Fun) (c1 c2 : Value) (w : World) (B : Nat) (hB : B ≤ w.heap.size) (hf : RFun.rep w B [.string f.name, c1, .int .i64 f.ret, c2] f) (hs : Small f) :
  Calls Try.prog 79 #[f.v c1 c2] w (TablePost (succsF f.blocks) (orderF f.blocks) f.blocks.length w) := by
 obtain ⟨hp, hb⟩ := fun_open (RFun.later hf (Below.refl _ _) hB)
 obtain ⟨A1, k1, h1, -, -⟩ := Rp.slice1_open hp
 obtain ⟨A2, k2, h2, hm2, -⟩ := Rp.slice1_open hb
 cases h1; cases h2
 clear hp hb
 obtain ⟨n, hn⟩ : ∃ n, Hid (n = f.blocks.length) := ⟨_, hide rfl⟩
 have hnle : n ≤ 2000000 := by rw [hn.out]; exact hs.blocks
 obtain ⟨O, hO⟩ : ∃ O, Hid (O = orderF f.blocks) := ⟨_, hide rfl⟩
 obtain ⟨sc, hsc⟩ : ∃ sc, Hid (sc = succsF f.blocks) := ⟨_, hide rfl⟩
 obtain ⟨R, hR⟩ : ∃ R, Hid (R = reachF f.blocks) := ⟨_, hide rfl⟩
 obtain ⟨P, hP⟩ : ∃ P, Hid (P = predsL sc n) := ⟨_, hide rfl⟩
 have hPl : P.length = n := by rw [hP.out, predsL_len]
 have hRl : R.length = n := by rw [hR.out, hn.out, reach_len]
 have hsok : Hid (∀ b, SuccOk n (sc b)) := hide (fun b => by rw [hsc.out, hn.out]; exact succsF_ok _ _)
 have hok : Hid (OrderOk n sc O) := hide (by rw [hO.out, hn.out, hsc.out]; exact order_ok _)
 have hol : O.length ≤ n := by rw [hO.out, hn.out]; exact order_len _
 have hRat : Hid (∀ k : Nat, k < n → R[k]? = some (decide ((k : Int) ∈ O))) := hide (fun k hk => by rw [hR.out, hO.out]; exact reach_at _ _ (by rw [← hn.out]; exact hk))
 rw [← hn.out, ← hO.out, ← hsc.out]
 rw [← hn.out] at hf hm2
 obtain ⟨W, hW, hwW, hWs, hx⟩ := boxes1 w #[.string f.name, .slice A1 f.params.length k1, .int .i64 f.ret, .slice A2 n k2] 32
 have q0 : ∀ w', Below W.heap.size W w' → w'.cell? ⟨w.heap.size, 0, none⟩ = some (.string f.name) := hx 0 _ rfl
 have q1 : ∀ w', Below W.heap.size W w' → w'.cell? ⟨w.heap.size, 1, none⟩ = some (.slice A1 f.params.length k1) := hx 1 _ rfl
 have q2 : ∀ w', Below W.heap.size W w' → w'.cell? ⟨w.heap.size, 2, none⟩ = some (.int .i64 f.ret) := hx 2 _ rfl
 have q3 : ∀ w', Below W.heap.size W w' → w'.cell? ⟨w.heap.size, 3, none⟩ = some (.slice A2 n k2) := hx 3 _ rfl
 clear hx
 have hws : w.heap.size ≤ W.heap.size := by omega
 replace hWs := hide hWs
 have hself := Below.refl W.heap.size W
 have hF : Hid (∀ w', Below W.heap.size W w' → RFun.rep w' w'.heap.size [.string f.name, .slice A1 f.params.length k1, .int .i64 f.ret, .slice A2 n k2] f) := hide (fun w' h => RFun.later hf ((hwW.trans (h.mono hws)).mono hB) (Nat.le_trans hB (hwW.trans (h.mono hws)).size))
 have cRR : Hid (∀ w', Below W.heap.size W w' → Calls Try.prog 78 #[f.v (.slice A1 f.params.length k1) (.slice A2 n k2)] w' (ReachPost n R w')) := hide (fun w' h => by
  have := rreach_any f (.slice A1 f.params.length k1) (.slice A2 n k2) w' w'.heap.size (Nat.le_refl _) (hF.out w' h) hs
  rwa [← hn.out, ← hR.out] at this)
 have cW : Hid (∀ (g : Int) w', Below W.heap.size W w' → Calls Try.prog 101 #[f.v (.slice A1 f.params.length k1) (.slice A2 n k2), .int .i64 g] w' (WithoutPost sc g n w')) := hide (fun (g : Int) w' h => by
  have := without_any f g (.slice A1 f.params.length k1) (.slice A2 n k2) w' w'.heap.size (Nat.le_refl _) (hF.out w' h) hs
  rwa [← hn.out, ← hsc.out] at this)
 replace hs := hide hs
 replace hf := hide hf
 replace hwW := hide hwW
 obtain ⟨i0, hi0, hz0, hz1, hz2⟩ := cinfo_parts cinfo_bools
 replace hi0 := hide hi0
 replace hz0 := hide hz0
 replace hz1 := hide hz1
 replace hz2 := hide hz2
 obtain ⟨j0, hj0, hy0, hy1, hy2⟩ := cinfo_parts cinfo_bool
 replace hj0 := hide hj0
 replace hy0 := hide hy0
 replace hy1 := hide hy1
 replace hy2 := hide hy2
 obtain ⟨T, hT⟩ : ∃ T : Nat → Nat → Bool, Hid (T = fun (a b : Nat) => domB sc O a b) := ⟨_, hide rfl⟩
 go_enter Try.func79, Try.ntmps79
 go_wp2_with (fail)
 refine (cRR.out _ hself).mono ?_
 rintro e X ⟨gr, rfl, hR4, hb4⟩
 obtain ⟨-, hRr⟩ := bool_reads hR4
 replace hRr := hide hRr
 have hsX := hb4.size
 have hbX := hide hb4
 have cWX : Hid (∀ (g : Int) w', Below X.heap.size X w' → Calls Try.prog 101 #[f.v (.slice A1 f.params.length k1) (.slice A2 n k2), .int .i64 g] w' (WithoutPost sc g n w')) := hide (fun g w' h => cW.out g w' (hbX.out.trans (h.mono hsX)))
 have z0 : ∀ w', Below X.heap.size X w' → w'.cell? ⟨w.heap.size, 0, none⟩ = some (.string f.name) := fun w' h => q0 w' (hb4.trans (h.mono hsX))
 have z1 : ∀ w', Below X.heap.size X w' → w'.cell? ⟨w.heap.size, 1, none⟩ = some (.slice A1 f.params.length k1) := fun w' h => q1 w' (hb4.trans (h.mono hsX))
 have z2 : ∀ w', Below X.heap.size X w' → w'.cell? ⟨w.heap.size, 2, none⟩ = some (.int .i64 f.ret) := fun w' h => q2 w' (hb4.trans (h.mono hsX))
 have z3 : ∀ w', Below X.heap.size X w' → w'.cell? ⟨w.heap.size, 3, none⟩ = some (.slice A2 n k2) := fun w' h => q3 w' (hb4.trans (h.mono hsX))
 have hwX : Hid (Below w.heap.size w X) := hide (hwW.out.trans (hb4.mono hws))
 clear hR4 hb4 cRR cW q0 q1 q2 q3 hself
 go_wp2_with (at_make; refine wpList_make_full _ rfl (.tmp 14) (.tmp 14) _ rfl X.heap.size 53 i0 _ 1 Try.underlying119 hi0.out hz0.out hz1.out .i64 .i64 n n n rfl rfl rfl rfl ?c1 ?c2 (Nat.le_refl _) ?_)
 case c1 => rw [hz2.out]; omega
 case c2 => unfold maxLen; omega
 intro w5 hown5 hg5
 have hb5 := below_grown0 hg5
 have hT5 : Hid (∃ L, L ≤ w5.heap.size ∧ TabAt T n w5 X.heap.size X.heap.size L 0) := hide ⟨0, Nat.zero_le _, TabAt.start (made_slices hown5)⟩
 clear hown5 hg5
 go_wp2
 go_loopw [6] (fun s wr => ∃ a : Nat, s = .int .i64 a ∧ a ≤ n ∧ Hid (∃ L, L ≤ wr.heap.size ∧ TabAt T n wr X.heap.size X.heap.size L a) ∧ Below X.heap.size X wr) (fun s _ => n - (intOf s).toNat)
 case atStart => exact ⟨0, rfl, Nat.zero_le _, hT5, hb5⟩
 case round =>
  clear hT5 hb5
  rename World => V
  obtain ⟨a, rfl, ha, hTa, hbel⟩ := hrel
  by_cases hlt : a < n
  ·have hai : (a : Int) < (n : Int) := by omega
   have hsV := hbel.size
   go_wp2_with (at_make; refine wpList_make_full _ rfl (.tmp 23) (.tmp 23) _ rfl V.heap.size 4 j0 _ 1 Try.underlying53 hj0.out hy0.out hy1.out .i64 .i64 n n n rfl rfl rfl rfl ?c1 ?c2 (Nat.le_refl _) ?_)
   case c1 => rw [hy2.out]; omega
   case c2 => unfold maxLen; omega
   intro w6 hown6 hg6
   have hb6 := below_grown0 hg6
   have hR6 := made_bools hown6
   have hs6 : V.heap.size < w6.heap.size := (row_lt hR6 rfl).2.1
   have hT6 : Hid (TabAt T n w6 X.heap.size X.heap.size V.heap.size a) := hide (by obtain ⟨L, h1, h2⟩ := hTa.out; exact (h2.up h1).below hb6)
   have hbel6 := hbel.trans (hb6.mono hsV)
   obtain ⟨cs6, hr6, -⟩ := id hT6.out
   have hcl : cs6.length = n := by have := hr6.1; omega
   obtain ⟨u6, hu6⟩ := get_ex (l := cs6) (k := a) (by omega)
   have rz6 : w6.cell? ⟨X.heap.size, a, none⟩ = some u6 := by rw [World.ownsRow.cellAt hr6 a (by omega)]; exact hu6.out
   have fz6 : w6.frozen? ⟨X.heap.size, a, none⟩ = false := World.ownsRow.frozenAt hr6 a
   have hT7 := hide (hT6.out.put hlt)
   have hR7 : Hid (RowAt T n a 0 (w6.setCell ⟨X.heap.size, a, none⟩ (.slice (some ⟨V.heap.size, 0, none⟩) n n)) V.heap.size) := hide ⟨_, (But.stored (j := a) (u := .slice (some ⟨V.heap.size, 0, none⟩) n n) hr6).row (by decide) (row_mono hR6 (Nat.zero_le _)), fun k hk => by omega⟩
   have hbel7 := hide (hbel6.setCell (p := ⟨X.heap.size, a, none⟩) (Nat.le_refl _) (.slice (some ⟨V.heap.size, 0, none⟩) n n))
   have hs7 : Hid (V.heap.size < (w6.setCell ⟨X.heap.size, a, none⟩ (.slice (some ⟨V.heap.size, 0, none⟩) n n)).heap.size) := hide (by rw [World.size_setCell]; exact hs6)
   clear hg6 hown6 hb6 hR6 hT6 hbel6 hr6 hbel hTa
   go_upto_region 8 with (fail)
   obtain ⟨w7, hw7⟩ : ∃ w7, w6.setCell ⟨X.heap.size, a, none⟩ (.slice (some ⟨V.heap.size, 0, none⟩) n n) = w7 := ⟨_, rfl⟩
   rw [hw7] at hT7 hR7 hbel7 hs7 ⊢
   clear hw7 rz6 fz6
   have hb7 := hbel7.out
   go_wp2_with (fail)
   refine (cWX.out a _ hb7).mono ?_
   rintro e Y ⟨gw, lw, rfl, hr8, hk8, hb8⟩
   have hbel8 := hb7.trans (hb8.mono hb7.size)
   have hT8 : Hid (TabAt T n Y X.heap.size X.heap.size V.heap.size a) := hide (hT7.out.1.below hb8)
   have hc8 : Hid (Y.cell? ⟨X.heap.size, a, none⟩ = some (.slice (some ⟨V.heap.size, 0, none⟩) n n)) := hide (by
    obtain ⟨-, -, h⟩ := hT7.out
    obtain ⟨cs, h1, -⟩ := hT7.out.1
    rw [hb8.cell (p := ⟨X.heap.size, a, none⟩) (row_lt h1 rfl).2.1]; exact h)
   have hR8 : Hid (RowAt T n a 0 Y V.heap.size) := hide (hR7.out.below hb8)
   have hsY : Hid (V.heap.size < Y.heap.size) := hide (Nat.lt_of_lt_of_le hs7.out hb8.size)
   have hwr : Hid (∀ k : Nat, k < n → ∃ x, (lw[k]? = some x ∧ (x = true ↔ RchW sc a k)) ∧ ∀ w', Only (fun k => k = V.heap.size) Y.heap.size Y w' → w'.cell? ⟨gw, k, none⟩ = some (.bool x)) := hide (fun k hk => by
    obtain ⟨x, hx⟩ := get_ex (l := lw) (k := k) (by rw [hk8.len]; exact hk)
    refine ⟨x, ⟨hx.out, ?_⟩, fun w' ho => ?_⟩
    ·have := hk8.iff k
     rw [hx.out] at this
     simp only [Option.some.injEq] at this
     exact this.trans ⟨fun h => h.2, fun h => ⟨hk, h⟩⟩
    ·rw [ho.cell (p := ⟨gw, k, none⟩) (row_lt hr8 rfl).2.1 (by have h1 : _ ≤ gw := (row_lt hr8 rfl).1; have h2 := hs7.out; show ¬ gw = V.heap.size; omega)]
     exact OwnB.cell hr8 hx.out hk)
   have hXY : Hid (∀ w', Only (fun k => k = V.heap.size) Y.heap.size Y w' → Below X.heap.size X w') := hide (fun w' h => hbel8.trans (h.to_below (fun k hk => by have : k = V.heap.size := hk; omega) hbel8.size))
   have hcr : Hid (∀ w', Only (fun k => k = V.heap.size) Y.heap.size Y w' → w'.cell? ⟨X.heap.size, a, none⟩ = some (.slice (some ⟨V.heap.size, 0, none⟩) n n)) := hide (fun w' ho => by
    obtain ⟨cs, h1, -⟩ := hT8.out
    rw [ho.cell (p := ⟨X.heap.size, a, none⟩) (row_lt h1 rfl).2.1 (fun e => by
     have e' : X.heap.size = V.heap.size := e
     obtain ⟨l9, h9, -⟩ := hR8.out
     obtain ⟨-, -, c5, h6⟩ := row_lt h1 (k := X.heap.size) rfl
     obtain ⟨-, -, c7, h8⟩ := row_lt h9 (k := V.heap.size) rfl
     rw [e', h8] at h6
     cases h6)]
    exact hc8.out)
   have hty : Hid (∀ c t, Y.heap[V.heap.size]? = some (.cells c t (0, 0)) → t = 4) := hide (fun c t h => by
    obtain ⟨l9, h9, -⟩ := hR8.out
    obtain ⟨-, -, c7, h8⟩ := row_lt h9 (k := V.heap.size) rfl
    rw [h8] at h; cases h; rfl)
   have ha1 : a < n := hlt
   have hraX := hRr.out a _ (hRat.out a hlt)
   replace hraX := hide hraX
   clear hb7 hbel7 hb8 hr8 hk8 hT7 hR7 hs7 hbel8
   go_wp2
   go_loopw [8] (fun s wr => ∃ b : Nat, s = .int .i64 b ∧ b ≤ n ∧ Hid (RowAt T n a b wr V.heap.size) ∧ Hid (Only (fun k => k = V.heap.size) Y.heap.size Y wr)) (fun s _ => n - (intOf s).toNat)
   case atStart => exact ⟨0, rfl, Nat.zero_le _, hR8, hide (Only.refl _ _ _)⟩
   case round =>
    clear hR8
    rename World => Z
    clear z0 z1 z2 z3 hPl hRl hol
    obtain ⟨b, rfl, hb, hRb, hon⟩ := hrel
    have hbZ := hXY.out _ hon.out
    by_cases hltb : b < n
    ·have hbi : (b : Int) < (n : Int) := by omega
     have ra : ∀ w', Only (fun k => k = V.heap.size) Y.heap.size Y w' → w'.cell? ⟨gr, a, none⟩ = some (.bool (decide ((a : Int) ∈ O))) := fun w' h => hraX.out _ (hXY.out _ h)
     have ra := ra _ hon.out
     have rb : ∀ w', Only (fun k => k = V.heap.size) Y.heap.size Y w' → w'.cell? ⟨gr, b, none⟩ = some (.bool (decide ((b : Int) ∈ O))) := fun w' h => hRr.out b _ (hRat.out b hltb) _ (hXY.out _ h)
     have rb := rb _ hon.out
     have rt := hcr.out _ hon.out
     obtain ⟨x, ⟨hx1, hx2⟩, rx9⟩ := hwr.out b hltb
     have rx := rx9 _ hon.out
     clear rx9
     obtain ⟨l9, hl9, -⟩ := id hRb.out
     have hl9l : l9.length = n := by have := hl9.1; simpa using this
     obtain ⟨y9, hy9⟩ := get_ex (l := l9) (k := b) (by omega)
     have ro := OwnB.cell hl9 hy9.out hltb
     have fo : Z.frozen? ⟨V.heap.size, b, none⟩ = false := World.ownsRow.frozenAt hl9 b
     have hset : Hid (∀ v, T a b = v → RowAt T n a (b + 1) (Z.drew.setCell ⟨V.heap.size, b, none⟩ (.bool v)) V.heap.size) := hide (fun v hv => (RowAt.set_ hRb.out hltb hv))
     have hon2 : Hid (∀ v, Only (fun k => k = V.heap.size) Y.heap.size Y (Z.drew.setCell ⟨V.heap.size, b, none⟩ (.bool v))) := hide (fun v => Only.setCell (p := ⟨V.heap.size, b, none⟩) hon.out.drew (.inl rfl) (.bool v))
     have hTv : Hid (T a b = true ↔ ((a : Int) ∈ O ∧ (b : Int) ∈ O ∧ ¬ RchW sc a b)) := hide (by rw [hT.out]; exact domB_iff)
     replace hx2 := hide hx2
     clear hbZ hx1 hl9
     have fin : Hid (∀ v : Bool, (v = true ↔ ((a : Int) ∈ O ∧ (b : Int) ∈ O ∧ ¬ RchW sc a b)) → T a b = v) := hide (fun v h => by rw [Bool.eq_iff_iff]; exact hTv.out.trans h.symm)
     by_cases am : (a : Int) ∈ O
     ·rw [show decide ((a : Int) ∈ O) = true from decide_eq_true am] at ra
      replace am := hide am
      by_cases bm : (b : Int) ∈ O
      ·rw [show decide ((b : Int) ∈ O) = true from decide_eq_true bm] at rb
       replace bm := hide bm
       by_cases hab : a = b
       ·subst hab
        have hv : Hid (T a a = true) := hide (fin.out true ⟨fun _ => ⟨am.out, am.out, fun h => h.free_ne rfl⟩, fun _ => rfl⟩)
        have hab2 : ((a : Int) == (a : Int)) = true := by simp
        go_upto_region 12 with (fail)
        refine wp_region_still_tail 28 (by kernel_rfl) (by kernel_rfl) ?_
        simp only [List.take_succ_cons, List.take_zero, List.drop_succ_cons, List.drop_zero]
        refine wpStill_of_quiet ?_
        repeat (go_big_quiet_step (fail))
        refine wpQuiet_nil ?_
        change wpList _ _ _ _ _ Z.drew
        go_wp2
        go_roundw
        case rel => exact ⟨a + 1, by go_num, hltb, hide (hset.out _ hv.out), hide (hon2.out _)⟩
        case measure => simp [intOf]; omega
       ·have hab2 : ((a : Int) == (b : Int)) = false := by simp; omega
        have hv : Hid (T a b = !x) := hide (fin.out _ ⟨fun h => ⟨am.out, bm.out, fun h' => by rw [hx2.out.2 h'] at h; cases h⟩, fun h => by
         cases x with
         | false => rfl
         | true => exact (h.2.2 (hx2.out.1 rfl)).elim⟩)
        replace hab := hide hab
        go_upto_region 12 with (fail)
        refine wp_region_still_tail 28 (by kernel_rfl) (by kernel_rfl) ?_
        simp only [List.take_succ_cons, List.take_zero, List.drop_succ_cons, List.drop_zero]
        refine wpStill_of_quiet ?_
        repeat (go_big_quiet_step (fail))
        refine wpQuiet_nil ?_
        change wpList _ _ _ _ _ Z.drew
        go_wp2
        go_roundw
        case rel => exact ⟨b + 1, by go_num, hltb, hide (hset.out _ hv.out), hide (hon2.out _)⟩
        case measure => simp [intOf]; omega
      ·rw [show decide ((b : Int) ∈ O) = false from decide_eq_false bm] at rb
       have hv : Hid (T a b = false) := hide (fin.out false ⟨(fun h => by cases h), fun h => (bm h.2.1).elim⟩)
       replace bm := hide bm
       go_upto_region 12 with (fail)
       refine wp_region_still_tail 28 (by kernel_rfl) (by kernel_rfl) ?_
       simp only [List.take_succ_cons, List.take_zero, List.drop_succ_cons, List.drop_zero]
       refine wpStill_of_quiet ?_
       repeat (go_big_quiet_step (fail))
       refine wpQuiet_nil ?_
       change wpList _ _ _ _ _ Z.drew
       go_wp2
       go_roundw
       case rel => exact ⟨b + 1, by go_num, hltb, hide (hset.out _ hv.out), hide (hon2.out _)⟩
       case measure => simp [intOf]; omega
     ·rw [show decide ((a : Int) ∈ O) = false from decide_eq_false am] at ra
      have hv : Hid (T a b = false) := hide (fin.out false ⟨(fun h => by cases h), fun h => (am h.1).elim⟩)
      replace am := hide am
      go_upto_region 12 with (fail)
      refine wp_region_still_tail 28 (by kernel_rfl) (by kernel_rfl) ?_
      simp only [List.take_succ_cons, List.take_zero, List.drop_succ_cons, List.drop_zero]
      refine wpStill_of_quiet ?_
      repeat (go_big_quiet_step (fail))
      refine wpQuiet_nil ?_
      change wpList _ _ _ _ _ Z.drew
      go_wp2
      go_roundw
      case rel => exact ⟨b + 1, by go_num, hltb, hide (hset.out _ hv.out), hide (hon2.out _)⟩
      case measure => simp [intOf]; omega
    ·obtain rfl : b = n := by omega
     have hT9 : Hid (∃ L, L ≤ Z.heap.size ∧ TabAt T b Z X.heap.size X.heap.size L (a + 1)) := hide ⟨V.heap.size + 1, by have := hon.out.size; have := hsY.out; omega, TabAt.more (hT8.out.only hon.out hty.out) ha1 (hcr.out _ hon.out) hRb.out.whole⟩
     go_wp2
     go_roundw
     case rel => exact ⟨a + 1, by go_num, ha1, hT9, hbZ⟩
     case measure => simp [intOf]; omega
  ·obtain rfl : a = n := by omega
   have hfin : Hid (∃ L, TabAt (fun a b => domB sc O a b) a V w.heap.size X.heap.size L a) := hide (by
    obtain ⟨L, -, h⟩ := hTa.out
    rw [hT.out] at h
    obtain ⟨cs, h1, h2⟩ := h
    exact ⟨L, cs, row_mono h1 (by omega), h2⟩)
   go_wp2
   go_ret
   obtain ⟨L, h⟩ := hfin.out
   exact ⟨_, L, rfl, h, hwX.out.trans (hbel.mono hwX.out.size)⟩
end Go.Proofs.Ytamjcafjdioidaa
