/-
  slices.Clone of values, slices.SortStableFunc, order.formed, order.Sort.
-/
import Derived.Test.YtmobolefijneoaaDoorO1
import Derived.Test.YtmobolefijneoaaDoorOe
set_option linter.unusedVariables false
namespace Go.Proofs.YtmobolefijneoaaDoor
open Go.RowKit Go.Joins Go.Deep

theorem VOwn.made (w : World) : VOwn (w.alloc (.cells #[] 25)) w.heap.size (.slice (some ⟨w.heap.size, 0, none⟩) 0 0) [] := World.ownsRow_made w #[] 0 (Nat.le_refl _) (by unfold maxLen; omega) rfl
/-- A copy of values: a row of its own, or nil where there are none. -/
def CloneV (is : List LV) (w : World) (e : Ending) (w' : World) : Prop := ∃ v, e = .returned v ∧ VOwn w' w.heap.size v is ∧ Below w.heap.size w w'
set_option maxHeartbeats 2000000 in
theorem vclone_any (A : Option Addr) (is : List LV) (c : Nat) (w : World) (hc : Cells w w.heap.size A (is.flatMap LV.cells)) (hl : is.length ≤ 1000) :
    Calls Tryd.prog 28 #[.slice A is.length c] w (CloneV is w) := by
  have hnil := fun (a : Option Addr) (n c : Nat) (w : World) => Lib.run_eql_slice_nil (P := Tryd.prog) w 23 25 a n c 0 0 Tryd.underlying23
  rcases A with _ | ad
  · have hl0 : is = [] := by
      rcases is with _ | ⟨y, ys⟩
      · rfl
      · obtain ⟨k, n, s, An, ns, cn, Ai, js, ci⟩ := y
        obtain ⟨b, off, e, _⟩ := hc 0 (.int .i64 k) rfl
        cases e
    subst hl0
    go_enter Tryd.func28, Tryd.ntmps28
    go_wp2
    go_ret
    exact ⟨_, rfl, VOwn.nil _ _, Below.refl _ _⟩
  · obtain ⟨m, hm⟩ : ∃ m, m = is.length := ⟨_, rfl⟩
    rw [← hm]
    go_enter Tryd.func28, Tryd.ntmps28
    go_wp2_with (first | (at_builtin; refine VOwn.any rfl (.tmp 5) (.tmp 6) rfl w.heap.size _ [] rfl (VOwn.made w) w.heap.size (some ad) m c is rfl hm (hc.alloc (Nat.le_refl _) _) (by simp; omega) (by simp) ?_; intro A1 c1 w1 hown1 hg1))
    go_ret
    rw [hm] at hown1
    exact ⟨_, rfl, by simpa using hown1, ((Below.refl _ _).alloc (Nat.le_refl _) _).trans (grew_below (VOwn.made w) (by simp) (by rw [hm] at hg1; exact hg1))⟩

/-- A row that the call owns, as a row that is moved about. -/
theorem VOwn.row {w : World} {base : Nat} {A : Option Addr} {n c : Nat} {is : List LV} (h : VOwn w base (.slice A n c) is) (hne : is ≠ []) (hf : ∀ v ∈ is, v.At w ∧ v.On (fun b => b < base) ∧ ∃ left, FormedP v.j left) :
    ∃ g, A = some ⟨g, 0, none⟩ ∧ base ≤ g ∧ RowIs w g is w := by
  have hs := h.2
  rcases hs with ⟨_, h0⟩ | ⟨g, cap, cur, e, hb, hh, hn, hm, hc, ht⟩
  · exact absurd (List.eq_nil_of_length_eq_zero h0) hne
  · injection e with e1 e2 e3
    subst e1 e2 e3
    have hlt := (h.lt g rfl).2
    refine ⟨g, rfl, hb, Chg.refl _ _, hlt, fun q k hq hk => ?_, fun v hv => ?_⟩
    · have hk2 : (is.flatMap LV.cells)[q * 5 + k]? = (is[q]).cells[k]? := flat_at is q k hq hk
      have hlk : k < (is[q]).cells.length := by rw [LV.cells_len]; exact hk
      rw [nth_lt hq]
      rw [List.getElem?_eq_getElem hlk] at hk2 ⊢
      have h1 := World.ownsRow.cells h (g := g) rfl (q * 5 + k) _ hk2
      rw [add_mk, Nat.zero_add] at h1
      refine ⟨h1, ?_⟩
      simp [World.frozen?, hh]
    · obtain ⟨h1, h2, h3⟩ := hf v hv
      exact ⟨h1, LV.On.mono (fun b hb' => by omega) v h2, h3⟩
theorem RowIs.done {w0 w : World} {g : Nat} {is : List LV} (h : RowIs w0 g is w) {base : Nat} (hb : base ≤ g) : Below base w0 w :=
  h.chg.below (by have := h.lt; omega) fun i e => by rw [e]; exact hb
theorem RowIs.cells {w0 w : World} {g : Nat} {is : List LV} (h : RowIs w0 g is w) : Cells w w.heap.size (some ⟨g, 0, none⟩) (is.flatMap LV.cells) := fun k u hu => by
  have hk : k < is.length * 5 := by
    have := (List.getElem?_eq_some_iff.1 hu).1
    rwa [flat_len] at this
  have hq : k / 5 < is.length := by omega
  have hd : k = k / 5 * 5 + k % 5 := by omega
  rw [hd, flat_at is (k / 5) (k % 5) hq (by omega)] at hu
  have h1 := (h.cell (k / 5) (k % 5) hq (by omega)).1
  rw [nth_lt hq, hu, ← hd] at h1
  exact ⟨g, 0, rfl, World.block_lt_of_cell? w _ h1, by rw [Nat.zero_add]; exact h1⟩

set_option maxHeartbeats 2000000 in
/-- slices.SortStableFunc by order.compare. -/
theorem sortf_any (w0 w : World) (g L c : Nat) (is : List LV) (hL : L = is.length) (hc : L ≤ c) (hm : L ≤ 1000) (hR : RowIs w0 g is w) :
    Calls Tryd.prog 29 #[.slice (some ⟨g, 0, none⟩) L c, .func (.func 23) #[] #[]] w (MergeRes w0 g 0 L L is) := by
  have HS := Lib.hid (stable_any w0 w g L c is (L : Int) rfl hL hc hm hR)
  clear hL hR
  go_enter Tryd.func29, Tryd.ntmps29
  go_wp2_with fail
  refine HS.out.mono ?_
  rintro e w1 ⟨rfl, it, h1, h2, h3, h4⟩
  have HX := Lib.hid (show w1.heap.size = w1.heap.size ∧ it.length = L ∧ SortOn (LV.js it) 0 L ∧ Moved (LV.js is) (LV.js it) 0 L from ⟨rfl, h2, h3, h4⟩)
  clear h2 h3 h4
  go_wp2
  go_end0
  exact ⟨rfl, it, h1, HX.out.2⟩
set_option maxHeartbeats 2000000 in
/-- .. of no values. -/
theorem sortf_nil (w : World) (c : Nat) (A : Option Addr) :
    Calls Tryd.prog 29 #[.slice A 0 c, .func (.func 23) #[] #[]] w fun e w' => e = .returned (.tuple #[]) ∧ w' = w := by
  have HI : Hid (Calls Tryd.prog 52 #[.slice A 0 c, .int .i64 0, .int .i64 0, .func (.func 23) #[] #[]] w fun e w' => e = .returned (.tuple #[]) ∧ w' = w) := Lib.hid (by
    go_enter Tryd.func52, Tryd.ntmps52
    go_wp2
    refine wp_loop_rounds 1 ?_
    rw [rounds_succ]
    go_wp2
    go_end0
    exact ⟨rfl, rfl⟩)
  have HS : Hid (Calls Tryd.prog 44 #[.slice A 0 c, .int .i64 0, .func (.func 23) #[] #[]] w fun e w' => e = .returned (.tuple #[]) ∧ w' = w) := Lib.hid (by
    go_enter Tryd.func44, Tryd.ntmps44
    go_wp2
    refine wp_loop_rounds 1 ?_
    rw [rounds_succ]
    go_wp2_with fail
    refine HI.out.mono ?_
    rintro e w1 ⟨rfl, rfl⟩
    go_wp2
    refine wp_loop_rounds 1 ?_
    rw [rounds_succ]
    go_wp2
    go_end0
    exact ⟨rfl, rfl⟩)
  go_enter Tryd.func29, Tryd.ntmps29
  go_wp2_with fail
  refine HS.out.mono ?_
  rintro e w1 ⟨rfl, rfl⟩
  go_wp2
  go_end0
  exact ⟨rfl, rfl⟩
end Go.Proofs.YtmobolefijneoaaDoor
