/- latheref06.visit and latheref06.Order. No condition but sizes. -/
import Derived.Test.YtffklfalocamiaaGrI
import Derived.Test.YtffklfalocamiaaGrS
import Derived.Test.YtffklfalocamiaaApn
import Derived.StillTailTactics
import Derived.Deep.OwnRows
namespace Go.Proofs.Ytffklfalocamiaa
open Go.RowKit
set_option linter.unusedSimpArgs false
set_option linter.unusedVariables false

/-- what a visit of a block that is not marked yet does: 'post' is what it puts out, the last first -/
structure Vis (sc : Int → List Int) (n b : Nat) (m m' : List Bool) (post : List Int) : Prop where
  len : m'.length = n
  room : m'.count false + post.length ≤ m.count false
  goes : ∀ st o, dfs sc (((b : Int), sc b) :: st) (m.set b true) o = dfs sc st m' (o ++ post)
  bound : ∀ x, x ∈ post → 0 ≤ x ∧ x < n
/-- .. behind i of its successors -/
structure VisI (sc : Int → List Int) (n b : Nat) (m m' : List Bool) (post : List Int) (i : Nat) : Prop where
  len : m'.length = n
  room : m'.count false + post.length + 1 ≤ m.count false
  goes : ∀ st o, dfs sc (((b : Int), sc b) :: st) (m.set b true) o = dfs sc (((b : Int), (sc b).drop i) :: st) m' (o ++ post)
  bound : ∀ x, x ∈ post → 0 ≤ x ∧ x < n
theorem visI_start {sc : Int → List Int} {n b : Nat} {m : List Bool} (hl : m.length = n) (hb : m[b]? = some false) : VisI sc n b m (m.set b true) [] 0 :=
  ⟨by rw [List.length_set]; exact hl, by have := count_set hb; simp; omega, fun st o => by simp, fun x h => by cases h⟩
theorem drop_cons {l : List Int} {i : Nat} {t : Int} (h : l[i]? = some t) : l.drop i = t :: l.drop (i + 1) := by
  obtain ⟨h1, h2⟩ := List.getElem?_eq_some_iff.1 h
  rw [List.drop_eq_getElem_cons h1, h2]
theorem visI_skip {sc : Int → List Int} {n b i t : Nat} {m m' : List Bool} {post : List Int} (h : VisI sc n b m m' post i) (ht : (sc b)[i]? = some (t : Int)) (hm : m'[t]? = some true) : VisI sc n b m m' post (i + 1) :=
  ⟨h.len, h.room, fun st o => by
    rw [h.goes, drop_cons ht, dfs_skip]
    rw [Int.toNat_natCast, hm]; decide, h.bound⟩
theorem visI_push {sc : Int → List Int} {n b i t : Nat} {m m' m2 : List Bool} {post p2 : List Int} (h : VisI sc n b m m' post i) (ht : (sc b)[i]? = some (t : Int)) (hm : m'[t]? = some false) (hv : Vis sc n t m' m2 p2) : VisI sc n b m m2 (post ++ p2) (i + 1) :=
  ⟨hv.len, by have := h.room; have := hv.room; rw [List.length_append]; omega, fun st o => by
    rw [h.goes, drop_cons ht, dfs_push (by rw [Int.toNat_natCast]; exact hm), Int.toNat_natCast, hv.goes, List.append_assoc], fun x hx => by
    rcases List.mem_append.1 hx with hx | hx
    · exact h.bound x hx
    · exact hv.bound x hx⟩
theorem visI_end {sc : Int → List Int} {n b : Nat} {m m' : List Bool} {post : List Int} (hbn : b < n) (h : VisI sc n b m m' post (sc b).length) : Vis sc n b m m' (post ++ [(b : Int)]) :=
  ⟨h.len, by have := h.room; simp; omega, fun st o => by rw [h.goes, List.drop_length, dfs_pop, List.append_assoc], fun x hx => by
    rcases List.mem_append.1 hx with hx | hx
    · exact h.bound x hx
    · rw [List.mem_singleton.1 hx]; omega⟩
theorem vis_order {bs : List (List Ins)} (hn : bs.length ≠ 0) {m' : List Bool} {post : List Int} (h : Vis (succsF bs) bs.length 0 (List.replicate bs.length false) m' post) : orderF bs = post.reverse := by
  unfold orderF
  rw [if_neg hn]
  have := h.goes [] []
  rw [dfs_nil] at this
  rw [show ((0 : Nat) : Int) = 0 from rfl] at this
  rw [this]
  rfl
theorem OwnI.only {w w' : World} {B g : Nat} {v : Value} {l : List Int} (h : OwnI w B v l) (hb : Only (fun k => k = g) w.heap.size w w') (hg : ∀ c, w.heap[g]? ≠ some (.cells c 3 (0, 0))) : OwnI w' B v l :=
  ⟨row_kept h.row fun k hk => by
    obtain ⟨-, h2, c, h3⟩ := row_lt h.row hk
    exact hb.block k h2 (fun e => hg c (by have e' : k = g := e; rw [← e']; exact h3)), h.ok⟩
def VisPost (sc : Int → List Int) (n gm b : Nat) (m : List Bool) (out : List Int) (w : World) (e : Ending) (w' : World) : Prop :=
  ∃ v m' post, e = .returned v ∧ OwnI w' w.heap.size v (post.reverse ++ out) ∧ w'.ownsRow 0 4 1 (.slice (some ⟨gm, 0, none⟩) n n) n (m'.map Value.bool) ∧ Only (fun k => k = gm) w.heap.size w w' ∧ Vis sc n b m m' post
set_option maxRecDepth 100000 in
set_option maxHeartbeats 6400000 in
theorem visit_any (f : Fun) (c1 c2 : Value) (B n gm : Nat) (hn : n = f.blocks.length) (sc : Int → List Int) (hsc : sc = succsF f.blocks) (hs : Small f) (hBg : B ≤ gm) : ∀ (c b : Nat) (m : List Bool) (out : List Int) (vo : Value) (w : World),
    m.count false = c → m[b]? = some false → m.length = n → b < n → B ≤ w.heap.size → w.ownsRow 0 4 1 (.slice (some ⟨gm, 0, none⟩) n n) n (m.map Value.bool) → OwnI w 0 vo out → out.length + m.count false ≤ n →
    RFun.rep w B [.string f.name, c1, .int .i64 f.ret, c2] f →
    Calls Try.prog 84 #[f.v c1 c2, .int .i64 b, .slice (some ⟨gm, 0, none⟩) n n, vo] w (VisPost sc n gm b m out w) := by
  intro c
  induction c using Nat.strongRecOn with
  | _ c ih =>
  intro b m out vo w hc hb hml hbn hB hrow hout hroom hf
  have hih : Hid (∀ (m' : List Bool), m'.count false < c → ∀ (b : Nat) (out : List Int) (vo : Value) (w : World),
    m'[b]? = some false → m'.length = n → b < n → B ≤ w.heap.size → w.ownsRow 0 4 1 (.slice (some ⟨gm, 0, none⟩) n n) n (m'.map Value.bool) → OwnI w 0 vo out → out.length + m'.count false ≤ n →
    RFun.rep w B [.string f.name, c1, .int .i64 f.ret, c2] f →
    Calls Try.prog 84 #[f.v c1 c2, .int .i64 b, .slice (some ⟨gm, 0, none⟩) n n, vo] w (VisPost sc n gm b m' out w)) := hide (fun m' hlt b out vo w h1 h2 h3 h4 h5 h6 h7 h8 => ih _ hlt b m' out vo w rfl h1 h2 h3 h4 h5 h6 h7 h8)
  clear ih
  have hnle : n ≤ 2000000 := by rw [hn]; exact hs.blocks
  have hsok : Hid (∀ b, SuccOk n (sc b)) := hide (fun b => by rw [hsc, hn]; exact succsF_ok _ _)
  have hsl : (sc b).length ≤ n := succ_len (hsok.out b)
  have hgm := hide (row_lt hrow (k := gm) rfl)
  have hgT : Hid (∀ w' : World, (∃ c, w'.heap[gm]? = some (.cells c 4 (0, 0))) → ∀ c, w'.heap[gm]? ≠ some (.cells c 3 (0, 0))) := hide (fun w' ⟨c, h⟩ c' h' => by
    rw [h] at h'
    injection h' with h'
    injection h' with _ h3
    exact absurd h3 (by decide))
  obtain ⟨hp, hbb⟩ := fun_open (RFun.later hf (Below.refl _ _) hB)
  obtain ⟨A1, k1, h1, -, -⟩ := Rp.slice1_open hp
  obtain ⟨A2, k2, h2, hm2, -⟩ := Rp.slice1_open hbb
  cases h1; cases h2
  clear hp hbb
  obtain ⟨i0, hi0, hz0, hz1, hz2⟩ := cinfo_parts cinfo_int
  replace hi0 := hide hi0
  replace hz0 := hide hz0
  replace hz1 := hide hz1
  replace hz2 := hide hz2
  rw [← hn] at hf hm2 hih ⊢
  obtain ⟨W, hW, hwW, hWs, hx⟩ := boxes1 w #[.string f.name, .slice A1 f.params.length k1, .int .i64 f.ret, .slice A2 n k2] 41
  have hws : w.heap.size ≤ W.heap.size := by omega
  have hrowW := row_kept hrow fun k hk => hwW.block k (row_lt hrow hk).2.1
  have fz1 : W.frozen? ⟨gm, b, none⟩ = false := World.ownsRow.frozenAt hrowW b
  have rz1 : W.cell? ⟨gm, b, none⟩ = some (.bool false) := OwnB.cell hrowW hb hbn
  have hrow1 := (World.ownsRow.stored hrowW b (.bool true)).1
  rw [bmap_set] at hrow1
  have hOnlyW : Only (fun k => k = gm) w.heap.size w (W.setCell ⟨gm, b, none⟩ (.bool true)) := (Only.of_below hwW).setCell (S := fun k => k = gm) (p := ⟨gm, b, none⟩) (.inl rfl) _
  obtain ⟨U, hU⟩ : ∃ U, W.setCell ⟨gm, b, none⟩ (.bool true) = U := ⟨_, rfl⟩
  have hUs : U.heap.size = w.heap.size + 1 := by rw [← hU]; simp [World.setCell]; exact hWs
  have hgmW : gm ≠ w.heap.size := by have := hgm.out.2.1; omega
  have x0 : ∀ j u, (#[Value.string f.name, .slice A1 f.params.length k1, .int .i64 f.ret, .slice A2 n k2] : Array Value)[j]? = some u → ∀ w', Only (fun k => k = gm) U.heap.size U w' → w'.cell? ⟨w.heap.size, j, none⟩ = some u := fun j u hu w' hw => by
    rw [hw.cell (p := ⟨w.heap.size, j, none⟩) (by show w.heap.size < _; omega) (fun e => hgmW e.symm), ← hU]
    rw [World.cell?_of_block (a := ⟨w.heap.size, j, none⟩) (Below.heap_setCell _ _ _ _ (fun e => hgmW e.symm))]
    exact hx j u hu W (Below.refl _ _)
  rw [hU] at hrow1 hOnlyW
  have q0 := x0 0 _ rfl
  have q1 := x0 1 _ rfl
  have q2 := x0 2 _ rfl
  have q3 := x0 3 _ rfl
  clear hx x0
  have hfU := Rp.only hf hOnlyW (fun k hk => by have e : k = gm := hk; omega) hB
  have hvis := visI_start (sc := sc) hml hb
  have hgTU : ∀ c, w.heap[gm]? ≠ some (.cells c 3 (0, 0)) := hgT.out w hgm.out.2.2
  have houtU := OwnI.only hout hOnlyW hgTU
  have hselfU := Only.refl (fun k => k = gm) U.heap.size U
  have cS : Hid (∀ w', Only (fun k => k = gm) U.heap.size U w' → Calls Try.prog 50 #[f.v (.slice A1 f.params.length k1) (.slice A2 n k2), .int .i64 b] w' (SuccPost (sc b) w')) := hide (fun w' h => by
    have h1 := Rp.only hfU h (fun k hk => by have e : k = gm := hk; omega) (by have := hOnlyW.size; omega)
    have := rsuccs_any f b (.slice A1 f.params.length k1) (.slice A2 n k2) w' B (by have := hOnlyW.size; have := h.size; omega) h1 hs
    rwa [← hsc] at this)
  replace hs := hide hs
  replace hn := hide hn
  replace hsc := hide hsc
  replace hf := hide hf
  replace hfU := hide hfU
  replace hvis := hide hvis
  replace houtU := hide houtU
  replace hout := hide hout
  replace hrow := hide hrow
  replace hrow1 := hide hrow1
  replace hrowW := hide hrowW
  replace hOnlyW := hide hOnlyW
  replace hgTU := hide hgTU
  replace hUs := hide hUs
  replace hWs := hide hWs
  replace hb := hide hb
  replace hwW := hide hwW
  go_enter Try.func84, Try.ntmps84
  go_wp2_with (first | (go_at_call 50; refine (cS.out _ hselfU).mono ?_; rintro e X ⟨vs, rfl, hO3, hb3⟩; obtain ⟨Ac, kc, hcf⟩ := row_form hO3.row; subst hcf))
  have hXs : Hid (U.heap.size ≤ X.heap.size) := hide hb3.size
  have hup : Hid (∀ w', Only (fun k => k = gm) X.heap.size X w' → Only (fun k => k = gm) U.heap.size U w') := hide (fun w' h => (Only.of_below hb3).trans (h.mono hXs.out))
  have z0 : ∀ w', Only (fun k => k = gm) X.heap.size X w' → w'.cell? ⟨w.heap.size, 0, none⟩ = some (.string f.name) := fun w' h => q0 w' (hup.out w' h)
  have z1 : ∀ w', Only (fun k => k = gm) X.heap.size X w' → w'.cell? ⟨w.heap.size, 1, none⟩ = some (.slice A1 f.params.length k1) := fun w' h => q1 w' (hup.out w' h)
  have z2 : ∀ w', Only (fun k => k = gm) X.heap.size X w' → w'.cell? ⟨w.heap.size, 2, none⟩ = some (.int .i64 f.ret) := fun w' h => q2 w' (hup.out w' h)
  have z3 : ∀ w', Only (fun k => k = gm) X.heap.size X w' → w'.cell? ⟨w.heap.size, 3, none⟩ = some (.slice A2 n k2) := fun w' h => q3 w' (hup.out w' h)
  have hrow3 := hide (row_kept hrow1.out fun k hk => hb3.block k (row_lt hrow1.out hk).2.1)
  have hout3 := hide (houtU.out.kept (w' := X) fun k _ hk => hb3.block k hk)
  have hO3' := hide hO3
  have hselfX := Only.refl (fun k => k = gm) X.heap.size X
  have hfX : Hid (∀ w', Only (fun k => k = gm) X.heap.size X w' → RFun.rep w' B [.string f.name, .slice A1 f.params.length k1, .int .i64 f.ret, .slice A2 n k2] f) := hide (fun w' h => Rp.only hfU.out (hup.out w' h) (fun k hk => by have e : k = gm := hk; omega) (by have := hOnlyW.out.size; omega))
  have hBX : Hid (B ≤ X.heap.size) := hide (by have := hOnlyW.out.size; have := hXs.out; omega)
  have hwX : Hid (Only (fun k => k = gm) w.heap.size w X) := hide (hOnlyW.out.trans ((Only.of_below hb3).mono hOnlyW.out.size))
  have hgX : Hid (∀ (w' : World) (m' : List Bool), w'.ownsRow 0 4 1 (.slice (some ⟨gm, 0, none⟩) n n) n (m'.map Value.bool) → ∀ c, w'.heap[gm]? ≠ some (.cells c 3 (0, 0))) := hide (fun w' m' h => hgT.out w' (row_lt h rfl).2.2)
  clear q0 q1 q2 q3 hselfU cS hb3 hrow1 houtU hO3
  go_loopw [3, 10] (fun u i wr => ∃ (j : Nat) (m1 : List Bool) (p : List Int), i = .int .i64 j ∧ j ≤ (sc b).length ∧ Hid (OwnI wr 0 u (p.reverse ++ out)) ∧ Hid (wr.ownsRow 0 4 1 (.slice (some ⟨gm, 0, none⟩) n n) n (m1.map Value.bool)) ∧ Hid (VisI sc n b m m1 p j) ∧ Hid (OwnI wr U.heap.size (.slice Ac (sc b).length kc) (sc b)) ∧ Only (fun k => k = gm) X.heap.size X wr) (fun _ i _ => (sc b).length - (intOf i).toNat)
  case atStart => exact ⟨0, _, [], rfl, Nat.zero_le _, hout3, hrow3, hvis, hO3', hselfX⟩
  case round =>
    obtain ⟨j, m1, p, rfl, hj, hou, hmk, hvi, hsr, hon⟩ := hrel
    have hol : (p.reverse ++ out).length + m1.count false + 1 ≤ n := by have := hvi.out.room; rw [List.length_append, List.length_reverse]; omega
    by_cases hlt : j < (sc b).length
    · obtain ⟨t, ht⟩ := get_ex (l := sc b) (k := j) hlt
      have htb := (hsok.out b).bound t (List.mem_of_getElem? ht.out)
      obtain ⟨tn, rfl⟩ := Int.eq_ofNat_of_zero_le htb.1
      have htn : tn < n := by have := htb.2; omega
      clear htb
      obtain ⟨g, rfl⟩ : ∃ g, Ac = some ⟨g, 0, none⟩ := by
        rcases hsr.out.row.2 with ⟨h1, h2⟩ | ⟨gp, cp, cur, h1, h2, _⟩
        · omega
        · cases h1; exact ⟨gp, rfl⟩
      have r0 : wr.cell? ⟨g, j, none⟩ = some (.int .i64 tn) := by rw [World.ownsRow.cellAt hsr.out.row j (by omega), List.getElem?_map, ht.out]; rfl
      have hm1l := hvi.out.len
      obtain ⟨bt, hbt⟩ := get_ex (l := m1) (k := tn) (by omega)
      have r1 : wr.cell? ⟨gm, tn, none⟩ = some (.bool bt) := OwnB.cell hmk.out hbt.out htn
      have hji : (j : Int) < ((sc b).length : Int) := by omega
      cases bt with
      | true =>
        have hv2 := hide (visI_skip hvi.out ht.out hbt.out)
        go_wp2
        go_roundw
        case rel => exact ⟨j + 1, m1, p, by go_num, hlt, hou, hmk, hv2, hsr, hon⟩
        case measure => simp [intOf]; omega
      | false =>
        have hcnt : m1.count false < c := by have := hvi.out.room; omega
        have cV := hide (hih.out m1 hcnt tn (p.reverse ++ out) u3 wr.drew hbt.out hm1l htn (by have := hBX.out; have := hon.size; exact Nat.le_trans hBX.out hon.size) hmk.out ⟨hou.out.row, hou.out.ok⟩ (by omega) (hfX.out wr.drew hon.drew))
        have hgwr := hide (hgX.out wr m1 hmk.out)
        go_upto_region 7 with (fail)
        go_still_tail 7, (by kernel_rfl)
        change wpList _ _ _ _ _ wr.drew
        go_wp2_with (first | (go_at_call 84; refine cV.out.mono ?_; rintro e w5 ⟨v5, m5, p5, rfl, hO5, hr5, hon5, hv5⟩))
        have hv2 := hide (visI_push hvi.out ht.out hbt.out hv5)
        have hO5' : Hid (OwnI w5 0 v5 ((p ++ p5).reverse ++ out)) := hide (by rw [List.reverse_append, List.append_assoc]; exact hO5.mono (Nat.zero_le _))
        have hr5' := hide hr5
        have hs5 : Hid (OwnI w5 U.heap.size (.slice (some ⟨g, 0, none⟩) (sc b).length kc) (sc b)) := hide (OwnI.only (w := wr.drew) ⟨hsr.out.row, hsr.out.ok⟩ hon5 hgwr.out)
        have hon9 := hon.drew.next (Nat.le_refl _) hon5
        clear hO5 hr5 hv5
        go_roundw
        case rel => exact ⟨j + 1, m5, p ++ p5, by go_num, hlt, hO5', hr5', hv2, hs5, hon9⟩
        case measure => simp [intOf]; omega
    · obtain rfl : j = (sc b).length := by omega
      obtain ⟨Au, Cu, hcu⟩ := row_form hou.out.row
      subst hcu
      obtain ⟨-, hnone, hok64, hsrc⟩ := ints_src hou.out.rep
      obtain ⟨lo, hlo⟩ : ∃ lo, Hid (lo = (p.reverse ++ out).length) := ⟨_, hide rfl⟩
      rw [← hlo.out] at hol hnone ⊢
      rw [← hlo.out] at hou
      have hba := (Below.refl wr.heap.size wr).alloc (Nat.le_refl _) (.cells #[.int .i64 b] 3)
      have hsrc2 := hide (hsrc _ hba)
      have hown0 : Hid ((wr.alloc (.cells #[.int .i64 b] 3)).ownsRow wr.heap.size 3 1 (.slice (some ⟨wr.heap.size, 0, none⟩) 1 1) 1 [.int .i64 b]) := hide ⟨rfl, .inr ⟨wr.heap.size, 1, _, rfl, Nat.le_refl _, box_top _ _, Nat.le_refl _, by simp [maxLen], rfl, rfl⟩⟩
      replace hnone := hide hnone
      replace hok64 := hide hok64
      have hbI : Hid (I64 b) := hide (i64_mk (by omega) (by omega))
      have hon2 := hide hon
      clear hsrc hba hon
      go_wp2_with (first
        | (at_builtin
           refine wpList_append_any _ rfl (.tmp 40) (.tmp 41) _ rfl wr.heap.size 3 i0 _ 1 8 Try.underlying38 hi0.out hz0.out hz1.out hz2.out rfl (by omega) (.slice (some ⟨wr.heap.size, 0, none⟩) 1 1) 1 [.int .i64 b] rfl hown0.out Au lo Cu ((p.reverse ++ out).map fun z => Value.int .i64 z) rfl (by rw [List.length_map, ← hlo.out]; omega) hnone.out hsrc2.out (ints_one _) (by unfold maxLen; omega) (by omega) (by simp) ?_
           intro v9 w9 hown9 hg9))
      go_ret
      have hon9 : Only (fun k => k = gm) w.heap.size w w9 := by
        have h1 := hwX.out.next (by have := hwX.out.size; omega) hon2.out
        refine h1.then_below (Nat.le_refl _) ?_
        exact ((Below.refl wr.heap.size wr).alloc (Nat.le_refl _) _).grown hg9 (by simp) (fun k hk => by cases hk; exact Nat.le_refl _)
      have hwr : w.heap.size ≤ wr.heap.size := Nat.le_trans hwX.out.size hon2.out.size
      have hv9 := visI_end hbn hvi.out
      refine ⟨_, m1, p ++ [(b : Int)], rfl, ⟨?_, ?_⟩, ?_, hon9, hv9⟩
      · have h9 : (p ++ [(b : Int)]).reverse ++ out = (b : Int) :: (p.reverse ++ out) := by simp
        rw [h9, List.map_cons, List.length_cons, ← hlo.out, Nat.add_comm lo 1]
        exact row_mono hown9 hwr
      · intro x hx
        have h9 : (p ++ [(b : Int)]).reverse ++ out = (b : Int) :: (p.reverse ++ out) := by simp
        rw [h9] at hx
        rcases List.mem_cons.1 hx with rfl | hx
        · exact hbI.out
        · exact hok64.out x hx
      · refine row_kept hmk.out fun k hk => ?_
        cases hk
        have h8 : gm < wr.heap.size := (row_lt hmk.out (k := gm) rfl).2.1
        have h7 : some gm ≠ Value.ownBlock (.slice (some ⟨wr.heap.size, 0, none⟩) 1 1) := fun e => by
          have e' : gm = wr.heap.size := Option.some.inj e
          omega
        exact (hg9.block gm (by simp; omega) h7).trans (Below.heap_alloc wr _ gm h8)
set_option maxRecDepth 100000 in
set_option maxHeartbeats 3200000 in
theorem rorder_any (f : Fun) (c1 c2 : Value) (w : World) (B : Nat) (hB : B ≤ w.heap.size) (hf : RFun.rep w B [.string f.name, c1, .int .i64 f.ret, c2] f) (hs : Small f) :
    Calls Try.prog 53 #[f.v c1 c2] w (OrdPost (orderF f.blocks) w) := by
  obtain ⟨hp, hb⟩ := fun_open (RFun.later hf (Below.refl _ _) hB)
  obtain ⟨A1, k1, h1, -, -⟩ := Rp.slice1_open hp
  obtain ⟨A2, k2, h2, hm2, -⟩ := Rp.slice1_open hb
  cases h1; cases h2
  clear hp hb
  obtain ⟨b0, hb0, hx0, hx1, hx2⟩ := cinfo_parts cinfo_bool
  replace hb0 := hide hb0
  replace hx0 := hide hx0
  replace hx1 := hide hx1
  replace hx2 := hide hx2
  obtain ⟨n, hn⟩ : ∃ n, Hid (n = f.blocks.length) := ⟨_, hide rfl⟩
  have hnle : n ≤ 2000000 := by rw [hn.out]; exact hs.blocks
  rw [← hn.out] at hf hm2 ⊢
  obtain ⟨W, hW, hwW, hWs, hx⟩ := boxes1 w #[.string f.name, .slice A1 f.params.length k1, .int .i64 f.ret, .slice A2 n k2] 41
  have q0 : ∀ w', Below W.heap.size W w' → w'.cell? ⟨w.heap.size, 0, none⟩ = some (.string f.name) := hx 0 _ rfl
  have q1 : ∀ w', Below W.heap.size W w' → w'.cell? ⟨w.heap.size, 1, none⟩ = some (.slice A1 f.params.length k1) := hx 1 _ rfl
  have q2 : ∀ w', Below W.heap.size W w' → w'.cell? ⟨w.heap.size, 2, none⟩ = some (.int .i64 f.ret) := hx 2 _ rfl
  have q3 : ∀ w', Below W.heap.size W w' → w'.cell? ⟨w.heap.size, 3, none⟩ = some (.slice A2 n k2) := hx 3 _ rfl
  clear hx
  have hws : w.heap.size ≤ W.heap.size := by omega
  replace hWs := hide hWs
  have hself := Below.refl W.heap.size W
  by_cases hn0 : n = 0
  · have ho : Hid (orderF f.blocks = []) := hide (by unfold orderF; rw [← hn.out, if_pos hn0])
    subst hn0
    go_enter Try.func53, Try.ntmps53
    go_wp2
    go_ret
    exact ⟨_, rfl, by rw [ho.out]; exact OwnI.nil_, hwW⟩
  have hn1 : f.blocks.length ≠ 0 := by rw [← hn.out]; exact hn0
  have cV : Hid (∀ w', Below W.heap.size W w' → ∀ g, w'.ownsRow W.heap.size 4 1 (.slice (some ⟨g, 0, none⟩) n n) n ((List.replicate n false).map Value.bool) → Calls Try.prog 84 #[f.v (.slice A1 f.params.length k1) (.slice A2 n k2), .int .i64 0, .slice (some ⟨g, 0, none⟩) n n, .slice none 0 0] w' (VisPost (succsF f.blocks) n g 0 (List.replicate n false) [] w')) := hide (fun w' h g hg => by
    have hh := hwW.trans (h.mono hws)
    have hg1 := (row_lt hg (k := g) rfl).1
    exact visit_any f (.slice A1 f.params.length k1) (.slice A2 n k2) B n g hn.out _ rfl hs (by omega) n 0 (List.replicate n false) [] (.slice none 0 0) w' (by simp) (by rw [List.getElem?_replicate, if_pos (by omega)]) (by simp) (by omega) (Nat.le_trans hB hh.size) (row_mono hg (Nat.zero_le _)) OwnI.nil_ (by simp) (RFun.later hf (hh.mono hB) (Nat.le_refl _)))
  replace hf := hide hf
  have e0 : ((n : Int) == 0) = false := by rw [beq_eq_false_iff_ne]; omega
  go_enter Try.func53, Try.ntmps53
  go_upto_region 3 with (fail)
  have hmk : ∀ w', (Instr.makeSlice 46 (.int .i64 (n : Int)) (.int .i64 (n : Int))).run Try.prog w' = .ok (.slice (some ⟨w'.heap.size, 0, none⟩) n n) (w'.alloc (.cells (madeCells #[.bool false] n) 4)) := fun w' =>
    run_make_row' 46 4 (.bool false) 1 Try.underlying46 cinfo_bool rfl .i64 .i64 n (by omega) (by omega) w'
  have hrowM : Hid ((W.alloc (.cells (madeCells #[.bool false] n) 4)).ownsRow W.heap.size 4 1 (.slice (some ⟨W.heap.size, 0, none⟩) n n) n ((List.replicate n false).map Value.bool)) := hide (made_bools ⟨by rw [toList_madeCells_one]; simp, .inr ⟨W.heap.size, n, _, rfl, Nat.le_refl _, box_top _ _, Nat.le_refl _, by unfold maxLen; omega, by rw [← Array.length_toList, toList_madeCells_one]; simp, by rw [toList_madeCells_one, List.take_of_length_le (by simp)]⟩⟩)
  have hbM : Below W.heap.size W (W.alloc (.cells (madeCells #[.bool false] n) 4)) := hself.alloc (Nat.le_refl _) _
  have hW2 := hide hW
  clear hW
  go_region_held3 (fun w' => Below W.heap.size W w') (first | (with_reducible assumption) | exact hself.drew | exact hbM.drew)
    (first
      | (go_at_call 84; refine (cV.out _ (hbM.drew) W.heap.size (by exact hrowM.out)).mono ?_; rintro e w5 ⟨v5, m5, p5, rfl, hO5, hr5, hon5, hv5⟩; have hk5 : Below W.heap.size W w5 := (hbM.drew).trans (hon5.to_below (fun k hk => by have e : k = W.heap.size := hk; omega) (by simp)))
      )
  have hO6 := hide hO5
  clear hO5 hr5 hon5 hW2
  go_wp2
  go_ret
  exact ⟨v5, rfl, by rw [vis_order hn1 (by rw [← hn.out]; exact hv5)]; have := hO6.out; rw [List.append_nil] at this; exact this.mono (by simp; omega), hwW.trans (hk5.mono hws)⟩
end Go.Proofs.Ytffklfalocamiaa
