/- graph.Reach. No condition but sizes. -/
import Derived.Test.YtkhlnopbgngjbaaGrH
import Derived.Test.YtkhlnopbgngjbaaGrL
namespace Go.Proofs.Ytkhlnopbgngjbaa
open Go.RowKit
set_option linter.unusedSimpArgs false
set_option linter.unusedVariables false

theorem OwnB.cell {w : World} {B g n c : Nat} {l : List Bool} (h : w.ownsRow B 4 1 (.slice (some ⟨g, 0, none⟩) n c) n (l.map Value.bool)) {k : Nat} {b : Bool} (hk : l[k]? = some b) (hn : k < n) : w.cell? ⟨g, k, none⟩ = some (.bool b) := by
  rw [World.ownsRow.cellAt h k (by omega), List.getElem?_map, hk]; rfl
def ReachPost (n : Nat) (l : List Bool) (w : World) (e : Ending) (w' : World) : Prop := ∃ g, e = .returned (.slice (some ⟨g, 0, none⟩) n n) ∧ w'.ownsRow w.heap.size 4 1 (.slice (some ⟨g, 0, none⟩) n n) n (l.map Value.bool) ∧ Below w.heap.size w w'
set_option maxRecDepth 100000 in
set_option maxHeartbeats 6400000 in
theorem reach_any (f : Fun) (c1 c2 : Value) (w : World) (B : Nat) (hB : B ≤ w.heap.size) (hf : RFun.rep w B [.string f.name, c1, .int .i64 f.ret, c2] f) (hs : Small f) :
    Calls Try.prog 27 #[f.v c1 c2] w (ReachPost f.blocks.length (reachF f.blocks) w) := by
  obtain ⟨hp, hb⟩ := fun_open (RFun.later hf (Below.refl _ _) hB)
  obtain ⟨A1, k1, h1, -, -⟩ := Rp.slice1_open hp
  obtain ⟨A2, k2, h2, hm2, -⟩ := Rp.slice1_open hb
  cases h1; cases h2
  clear hp hb
  obtain ⟨b0, hb0, hx0, hx1, hx2⟩ := cinfo_parts cinfo_bool
  replace hb0 := hide hb0
  replace hx0 := hide hx0
  replace hx1 := hide hx1
  replace hx2 := hide hx2
  obtain ⟨n, hn⟩ : ∃ n, Hid (n = f.blocks.length) := ⟨_, hide rfl⟩
  have hnle : n ≤ 2000000 := by rw [hn.out]; exact hs.blocks
  have hrl := reach_len f.blocks
  obtain ⟨O, hO⟩ : ∃ O, Hid (O = orderF f.blocks) := ⟨_, hide rfl⟩
  have hRe : Hid (reachF f.blocks = O.foldl (fun l b => l.set b.toNat true) (List.replicate n false)) := hide (by rw [hn.out, hO.out]; rfl)
  have hol : O.length ≤ n := by rw [hO.out, hn.out]; exact order_len _
  have hob : Hid (∀ x, x ∈ O → 0 ≤ x ∧ x < n) := hide (by rw [hO.out, hn.out]; exact (order_ok _).bound)
  clear hrl
  rw [← hn.out] at hf hm2 ⊢
  obtain ⟨W, hW, hwW, hWs, hx⟩ := boxes1 w #[.string f.name, .slice A1 f.params.length k1, .int .i64 f.ret, .slice A2 n k2] 25
  have q0 : ∀ w', Below W.heap.size W w' → w'.cell? ⟨w.heap.size, 0, none⟩ = some (.string f.name) := hx 0 _ rfl
  have q1 : ∀ w', Below W.heap.size W w' → w'.cell? ⟨w.heap.size, 1, none⟩ = some (.slice A1 f.params.length k1) := hx 1 _ rfl
  have q2 : ∀ w', Below W.heap.size W w' → w'.cell? ⟨w.heap.size, 2, none⟩ = some (.int .i64 f.ret) := hx 2 _ rfl
  have q3 : ∀ w', Below W.heap.size W w' → w'.cell? ⟨w.heap.size, 3, none⟩ = some (.slice A2 n k2) := hx 3 _ rfl
  clear hx
  have hws : w.heap.size ≤ W.heap.size := by omega
  replace hWs := hide hWs
  have hself := Below.refl W.heap.size W
  have cO : Hid (∀ w', Below W.heap.size W w' → Calls Try.prog 62 #[f.v (.slice A1 f.params.length k1) (.slice A2 n k2)] w' (OrdPost O w')) := hide (fun w' h => by
    have hh := hwW.trans (h.mono hws)
    have := order_any f (.slice A1 f.params.length k1) (.slice A2 n k2) w' w'.heap.size (Nat.le_refl _) (RFun.later hf (hh.mono hB) (Nat.le_trans hB hh.size)) hs
    rwa [← hO.out] at this)
  replace hs := hide hs
  replace hf := hide hf
  replace hwW := hide hwW
  go_enter Try.func27, Try.ntmps27
  go_wp2_with (at_make; refine wpList_make_full _ rfl (.tmp 8) (.tmp 8) _ rfl W.heap.size 4 b0 _ 1 Try.underlying36 hb0.out hx0.out hx1.out .i64 .i64 n n n rfl rfl rfl rfl ?c1 ?c2 (Nat.le_refl _) ?_)
  case c1 => rw [hx2.out]; omega
  case c2 => unfold maxLen; omega
  intro w1 hown1 hg1
  have hbel1 := below_grown0 hg1
  have hmk1 := hide (made_bools hown1)
  have hs1 := hbel1.size
  clear hg1 hown1
  go_wp2_with (first | (go_at_call 62; refine (cO.out _ hbel1).mono ?_; rintro e w3 ⟨c, rfl, hO3, hb3⟩; obtain ⟨Ac, kc, hcf⟩ := row_form hO3.row; subst hcf))
  have hbel3 := hbel1.trans (hb3.mono hs1)
  have hmk3 := hide (row_kept hmk1.out fun k hk => hb3.block k (row_lt hmk1.out hk).2.1)
  have hO3' := hide hO3
  clear hbel1 hb3 hmk1 hs1 hO3
  go_loopw [13] (fun j wr => ∃ m : Nat, j = .int .i64 m ∧ m ≤ O.length ∧ Hid (wr.ownsRow W.heap.size 4 1 (.slice (some ⟨W.heap.size, 0, none⟩) n n) n (((O.take m).foldl (fun l b => l.set b.toNat true) (List.replicate n false)).map Value.bool)) ∧ Hid (OwnI wr w1.heap.size (.slice Ac O.length kc) O) ∧ Below W.heap.size W wr) (fun i _ => O.length - (intOf i).toNat)
  case atStart => exact ⟨0, rfl, Nat.zero_le _, by rw [List.take_zero]; exact hmk3, hO3', hbel3⟩
  case round =>
    clear hmk3 hO3' hbel3
    obtain ⟨m, rfl, hm, hmk, hou, hbel⟩ := hrel
    by_cases hlt : m < O.length
    · obtain ⟨x, hx⟩ := get_ex (l := O) (k := m) hlt
      obtain ⟨xn, rfl⟩ := Int.eq_ofNat_of_zero_le (hob.out x (List.mem_of_getElem? hx.out)).1
      have hxn : xn < n := by have := (hob.out _ (List.mem_of_getElem? hx.out)).2; omega
      obtain ⟨g, rfl⟩ : ∃ g, Ac = some ⟨g, 0, none⟩ := by
        rcases hou.out.row.2 with ⟨h1, h2⟩ | ⟨gp, cp, cur, h1, h2, _⟩
        · omega
        · cases h1; exact ⟨gp, rfl⟩
      have r0 : wr.cell? ⟨g, m, none⟩ = some (.int .i64 xn) := by rw [World.ownsRow.cellAt hou.out.row m (by omega), List.getElem?_map, hx.out]; rfl
      have hml : ((O.take m).foldl (fun l b => l.set b.toNat true) (List.replicate n false)).length = n := by rw [setAll_len []]; simp
      obtain ⟨b, hb⟩ := get_ex (l := (O.take m).foldl (fun l b => l.set b.toNat true) (List.replicate n false)) (k := xn) (by omega)
      have r1 : wr.cell? ⟨W.heap.size, xn, none⟩ = some (.bool b) := OwnB.cell hmk.out hb.out hxn
      have f1 : wr.frozen? ⟨W.heap.size, xn, none⟩ = false := World.ownsRow.frozenAt hmk.out xn
      have st := (World.ownsRow.stored hmk.out xn (.bool true)).1
      rw [bmap_set] at st
      have hst : Hid (((O.take m).foldl (fun l b => l.set b.toNat true) (List.replicate n false)).set xn true = (O.take (m + 1)).foldl (fun l b => l.set b.toNat true) (List.replicate n false)) := hide (by
        rw [List.take_add_one, hx.out]; simp)
      rw [hst.out] at st
      replace st := hide st
      have hbut := But.stored (j := xn) (u := .bool true) hmk.out
      have hou2 := hide (show OwnI _ _ _ _ from ⟨hbut.row (by decide) hou.out.row, hou.out.ok⟩)
      have hb9 := hide (hbel.setCell (p := ⟨W.heap.size, xn, none⟩) (Nat.le_refl _) (.bool true))
      have hmi : (m : Int) < (O.length : Int) := by omega
      replace hbut := hide hbut
      replace hml := hide hml
      go_wp2
      go_roundw
      case rel => exact ⟨m + 1, by go_num, hlt, st, hou2, hb9.out⟩
      case measure => simp [intOf]; omega
    · obtain rfl : m = O.length := by omega
      have hmk9 := hmk.out
      rw [List.take_length, ← hRe.out] at hmk9
      replace hmk9 := hide hmk9
      go_wp2
      go_ret
      exact ⟨W.heap.size, rfl, row_mono hmk9.out hws, hwW.out.trans (hbel.mono hws)⟩
end Go.Proofs.Ytkhlnopbgngjbaa
