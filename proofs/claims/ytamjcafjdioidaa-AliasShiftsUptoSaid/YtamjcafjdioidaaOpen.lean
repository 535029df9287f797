/- From what the row's form reads to how the data lie in memory ('Rp'); and what the bound on the bulk gives. No condition. -/
import Derived.Test.YtamjcafjdioidaaRows
import Derived.Test.YtamjcafjdioidaaApn
import Derived.ProofKit
import Derived.OpenShut
import Derived.JoinedCond
import Derived.Deep.Slices
namespace Go.Proofs.Ytamjcafjdioidaa
open Go.RowKit Go.ChangeShapes Go.WideShapes Go.Deep

theorem len1 {α : Type} {l : List α} (h : l.length = 1) : ∃ a0 : α, l = [a0] := by
  match l, h with
  | [a0], _ => exact ⟨a0, rfl⟩
theorem len2 {α : Type} {l : List α} (h : l.length = 2) : ∃ a0 a1 : α, l = [a0, a1] := by
  match l, h with
  | [a0, a1], _ => exact ⟨a0, a1, rfl⟩
theorem len3 {α : Type} {l : List α} (h : l.length = 3) : ∃ a0 a1 a2 : α, l = [a0, a1, a2] := by
  match l, h with
  | [a0, a1, a2], _ => exact ⟨a0, a1, a2, rfl⟩
theorem len4 {α : Type} {l : List α} (h : l.length = 4) : ∃ a0 a1 a2 a3 : α, l = [a0, a1, a2, a3] := by
  match l, h with
  | [a0, a1, a2, a3], _ => exact ⟨a0, a1, a2, a3, rfl⟩
theorem len5 {α : Type} {l : List α} (h : l.length = 5) : ∃ a0 a1 a2 a3 a4 : α, l = [a0, a1, a2, a3, a4] := by
  match l, h with
  | [a0, a1, a2, a3, a4], _ => exact ⟨a0, a1, a2, a3, a4, rfl⟩
theorem len6 {α : Type} {l : List α} (h : l.length = 6) : ∃ a0 a1 a2 a3 a4 a5 : α, l = [a0, a1, a2, a3, a4, a5] := by
  match l, h with
  | [a0, a1, a2, a3, a4, a5], _ => exact ⟨a0, a1, a2, a3, a4, a5, rfl⟩
theorem len7 {α : Type} {l : List α} (h : l.length = 7) : ∃ a0 a1 a2 a3 a4 a5 a6 : α, l = [a0, a1, a2, a3, a4, a5, a6] := by
  match l, h with
  | [a0, a1, a2, a3, a4, a5, a6], _ => exact ⟨a0, a1, a2, a3, a4, a5, a6, rfl⟩
theorem len8 {α : Type} {l : List α} (h : l.length = 8) : ∃ a0 a1 a2 a3 a4 a5 a6 a7 : α, l = [a0, a1, a2, a3, a4, a5, a6, a7] := by
  match l, h with
  | [a0, a1, a2, a3, a4, a5, a6, a7], _ => exact ⟨a0, a1, a2, a3, a4, a5, a6, a7, rfl⟩

theorem list_of {α : Type} {n : Nat} {p : Nat → α → Prop} (h : ∀ i, i < n → ∃ y, p i y) : ∃ l : List α, l.length = n ∧ ∀ i y, l[i]? = some y → p i y := by
  induction n with
  | zero => exact ⟨[], rfl, fun i y hy => by simp at hy⟩
  | succ n ih =>
    obtain ⟨l, hl, hp⟩ := ih (fun i hi => h i (Nat.lt_succ_of_lt hi))
    obtain ⟨y, hy⟩ := h n (Nat.lt_succ_self n)
    refine ⟨l ++ [y], by simp [hl], fun i z hz => ?_⟩
    rcases Nat.lt_or_ge i n with hi | hi
    · rw [List.getElem?_append_left (by omega)] at hz
      exact hp i z hz
    · rw [List.getElem?_append_right (by omega)] at hz
      obtain rfl : i = n := by
        have := (List.getElem?_eq_some_iff.1 hz).1
        simp at this; omega
      simp [hl] at hz
      subst hz; exact hy

/-- WHAT THE FORM READS AT TYPE t LIES AS R SAYS, and is no greater than what was read. -/
def Opens {α : Type} (t : TypeId) (R : Rp α) (μ : α → Nat) : Prop :=
  ∀ (H : Type) (enc : TypeId × Value → H) (w : World) (base : Nat) (spare : Nat → Bool) (held : Bool) (fuel : Nat) (cs : List Value) (x : DataW H × List MemPlace),
    DataW.trod enc Try.prog w base spare held fuel t cs = some x → ∃ m, R.rep w w.heap.size cs m ∧ μ m ≤ Rows.uptoBulk x.1

theorem bulk_one {H : Type} (d : DataW H) : 1 ≤ Rows.uptoBulk d := by
  cases d with
  | lit l => cases l <;> simp [Rows.uptoBulk]
  | nil => simp [Rows.uptoBulk]
  | ptr d => simp [Rows.uptoBulk]
  | slice elems spare => simp [Rows.uptoBulk]
  | agg parts => simp [Rows.uptoBulk]
  | iface t d => simp [Rows.uptoBulk]
  | map entries => simp [Rows.uptoBulk]
  | held h => simp [Rows.uptoBulk]

theorem sum_le {α H : Type} {μ : α → Nat} : ∀ (l : List α) (D : Nat → DataW H), (∀ i y, l[i]? = some y → μ y ≤ Rows.uptoBulk (D i)) → (l.map μ).sum ≤ Rows.uptoBulkAll ((List.range l.length).map D)
  | [], _, _ => by simp
  | y :: l, D, h => by
    have h0 := h 0 y rfl
    have := sum_le l (fun i => D (i + 1)) (fun i z hz => h (i + 1) z (by simpa using hz))
    simp only [List.map_cons, List.sum_cons, List.length_cons, List.range_succ_eq_map, Rows.uptoBulkAll, List.map_map]
    have e : (D ∘ Nat.succ) = fun i => D (i + 1) := rfl
    rw [e]
    omega

theorem add_mk (b off k : Nat) : (⟨b, off, none⟩ : Addr).add k = ⟨b, off + k, none⟩ := by
  unfold Addr.add
  split
  · rename_i h; rw [h]; rfl
  · rfl

theorem opens_slice {α : Type} {t e n : Nat} {R : Rp α} {μ : α → Nat} (ht : Try.prog.underlying t = some (.slice e)) (hn : Try.prog.cellsOf e = n) (h0 : 0 < n) (he : Opens e R μ) :
    Opens t (.slice n R) (fun l => (l.map μ).sum + 1) := by
  intro H enc w base spare held fuel cs x h
  rcases open_slice ht h with ⟨rfl, rfl⟩ | ⟨a, len, cap, m, k, D, Pl, rfl, hb, hl, hm, hmm, rfl, hi⟩
  · exact ⟨[], Rp.nil_rep, by simp [Rows.uptoBulk]⟩
  · have hlm : len ≤ m := by rw [hmm]; split <;> omega
    obtain ⟨l, hll, hp⟩ := list_of (n := len) (p := fun i y => ∃ cs', w.cells? base (a.add (i * n)) n = some cs' ∧ R.rep w w.heap.size cs' y ∧ μ y ≤ Rows.uptoBulk (D i)) (fun i hil => by
      obtain ⟨cs', hc, ht'⟩ := hi i (by omega)
      rw [hn] at hc
      obtain ⟨y, hr, hμ⟩ := he _ _ _ _ _ _ _ _ _ ht'
      exact ⟨y, cs', hc, hr, hμ⟩)
    subst hll
    refine ⟨l, ⟨some a, cap, rfl, hl, hm, fun hpos => ?_⟩, ?_⟩
    · obtain ⟨y0, hy0⟩ : ∃ y, l[0]? = some y := ⟨_, List.getElem?_eq_getElem hpos⟩
      obtain ⟨cs0, hc0, _, _⟩ := hp 0 y0 hy0
      obtain ⟨_, hlen0, hcell0⟩ := World.cells?_some hc0
      have hsome : w.cell? a = some (cs0[0]'(by omega)) := by
        have := hcell0 0 h0
        rw [List.getElem?_eq_getElem (by omega)] at this
        simpa [Addr.add] using this
      have hspot := World.cell?_spot hsome
      have hlt := World.block_lt_of_cell? w a hsome
      obtain ⟨b, off, spot⟩ := a
      subst hspot
      refine ⟨b, off, rfl, hlt, fun i y hy => ?_⟩
      obtain ⟨cs', hc, hr, _⟩ := hp i y hy
      obtain ⟨_, hlen, hcell⟩ := World.cells?_some hc
      refine ⟨cs', hlen, hr, fun j u hu => ?_⟩
      have hj : j < n := by rw [← hlen]; exact (List.getElem?_eq_some_iff.1 hu).1
      have := hcell j hj
      rw [Go.Deep.add_add, add_mk, hu] at this
      exact this
    · have := sum_le (μ := μ) l D (fun i y hy => by obtain ⟨_, _, _, h⟩ := hp i y hy; exact h)
      simp only [Rows.uptoBulk]
      omega

theorem bound {H : Type} {l : List (DataW H)} (hk : Rows.uptoSmall H l = true) : Rows.uptoBulkAll l ≤ 1048576 := of_decide_eq_true hk

theorem arr_of {args : Array Value} {l : List Value} (h : args.toList = l) : args = l.toArray := by rw [← h]
theorem agg_list {cs : Array Value} {l : List Value} (h : cs.toList = l) : Value.agg cs = .agg l.toArray := by rw [← h]
theorem own : ownKnob Try.prog.godebug = none := by kernel_rfl
theorem laidOut : laidOutB Try.prog = true := by kernel_rfl
theorem cells_int : Try.prog.cellsOf 3 = 1 := by kernel_rfl

end Go.Proofs.Ytamjcafjdioidaa
