/-
  Lists of values that came in.
-/
import Derived.Test.YtmobolefijneoaaDoorO7
set_option linter.unusedVariables false
namespace Go.Proofs.YtmobolefijneoaaDoor
open Go.ChangeShapes Go.WideShapes Go.ChangeAt Go.RowKit Go.Joins Go.Deep

/-- Values that came in. -/
theorem vals_in {H : Type} {enc : TypeId × Value → H} {W : World} {base : Nat} {spare : Nat → Bool} {held : Bool} {fuel : Nat} {a : Option Addr} {n c : Nat} {x : DataW H × List MemPlace}
    (h : DataW.trod enc Tryd.prog W base spare held fuel 23 [.slice a n c] = some x) : ∃ is : List LV, n = is.length ∧ is.length ≤ c ∧ c ≤ 9223372036854775807 ∧ Cells W W.heap.size a (is.flatMap LV.cells) ∧ LV.AllAt W is := by
  obtain ⟨k0, k1, k2, k3, k4, k5⟩ := cellsInt
  rcases DataW.trod_slice Tryd.underlying23 h with ⟨hcs, _⟩ | ⟨ad, len, cap, elems, rest, nn, hnn, hcs, _, hba, hlc, hcm, hel, hat, _, _⟩
  · simp at hcs
    obtain ⟨rfl, rfl, rfl⟩ := hcs
    exact ⟨[], rfl, by simp, by simp, Cells.nil, trivial⟩
  · simp at hcs
    obtain ⟨rfl, rfl, rfl⟩ := hcs
    unfold maxLen at hcm
    obtain ⟨b, off, spot⟩ := ad
    have hv : ∀ i, ∃ v : LV, i < n → v.At W ∧ W.cells? base ((⟨b, off, spot⟩ : Addr).add (i * 5)) 5 = some v.cells := fun i => by
      by_cases hi : i < n
      · have h5 := hat i hi
        rw [k5] at h5
        rw [List.getElem?_eq_getElem (by omega)] at h5
        rw [Option.bind_eq_some_iff] at h5
        obtain ⟨cs, hc1, hc2⟩ := h5
        obtain ⟨v, rfl, hv⟩ := val_cells nn cs _ hc2
        exact ⟨v, fun _ => ⟨hv, hc1⟩⟩
      · exact ⟨.mk 0 0 ByteArray.empty none [] 0 none [] 0, fun h' => absurd h' hi⟩
    obtain ⟨Y, hY⟩ := Classical.axiomOfChoice hv
    refine ⟨(List.range n).map Y, by simp, by simp; omega, hcm, fun k u hu => ?_, LV.allAt.2 fun v hv => ?_⟩
    · have hk5 : k < n * 5 := by
        have := (List.getElem?_eq_some_iff.1 hu).1
        have e : ((List.range n).map Y).flatMap LV.cells = ((List.range n).map Y).flatMap LV.cells := rfl
        rw [List.length_flatMap] at this
        have e2 : ((List.map Y (List.range n)).map (fun a => a.cells.length)).sum = n * 5 := by
          have : (List.map Y (List.range n)).map (fun a => a.cells.length) = List.replicate n 5 := by
            rw [List.eq_replicate_iff]
            refine ⟨by simp, fun b hb => ?_⟩
            obtain ⟨a, _, rfl⟩ := List.mem_map.1 hb
            exact LV.cells_len a
          rw [this, List.sum_replicate_nat]
        omega
      have hi : k / 5 < n := by omega
      have hd : k = k / 5 * 5 + k % 5 := by omega
      rw [hd, flat_at _ (k / 5) (k % 5) (by simpa using hi) (by omega)] at hu
      have h0 := (World.cells?_some (hY 0 (by omega)).2).2.2 0 (by omega)
      have h8 := (World.cells?_some (hY (k / 5) hi).2).2.2 (k % 5) (by omega)
      rw [Nat.zero_mul, Deep.add_add] at h0
      rw [Deep.add_add, ← hd] at h8
      have hspot : spot = none := by
        have h9 : W.cell? ((⟨b, off, spot⟩ : Addr).add (0 + 0)) = some ((Y 0).cells[0]'(by rw [LV.cells_len]; omega)) := by rw [h0, List.getElem?_eq_getElem]
        simpa [Addr.add] using World.cell?_spot h9
      subst hspot
      rw [List.getElem_map, List.getElem_range] at hu
      rw [hu, add_mk] at h8
      exact ⟨b, off, rfl, World.block_lt_of_cell? W _ h8, h8⟩
    · obtain ⟨i, hi, rfl⟩ := List.mem_map.1 hv
      exact (hY i (List.mem_range.1 hi)).1
end Go.Proofs.YtmobolefijneoaaDoor
