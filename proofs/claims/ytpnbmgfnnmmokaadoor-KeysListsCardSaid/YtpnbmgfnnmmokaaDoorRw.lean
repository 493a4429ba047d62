/-
  Arguments that came in: bytes, bools, lists of bytes.
-/
import Derived.Test.YtpnbmgfnnmmokaaDoorDp
import Derived.Deep.Slices
import Derived.Deep.Fields
import Derived.ChangeSame
set_option linter.unusedVariables false
namespace Go.Proofs.YtpnbmgfnnmmokaaDoor
open Go.ChangeShapes Go.WideShapes Go.ChangeAt Go.RowKit Go.Joins Go.Deep

/-- Bytes that came in: a slice, and the numbers in it. -/
theorem bytes_in {H : Type} {enc : TypeId × Value → H} {W : World} {base : Nat} {spare : Nat → Bool} {held : Bool} {fuel : Nat} {a : Option Addr} {n c : Nat} {x : DataW H × List MemPlace}
    (h : DataW.trod enc Tryd.prog W base spare held fuel 28 [.slice a n c] = some x) : ∃ l : List Int, n = l.length ∧ Oct l ∧ l.length ≤ c ∧ c ≤ maxLen ∧ Cells W W.heap.size a (U8 l) := by
  rcases open_ints Tryd.underlying28 Tryd.underlying5 (by kernel_rfl) h with ⟨hcs, _⟩ | ⟨ad, len, cap, zs, hcs, _, hl, hm, hz, _, hcell, hwz⟩
  · simp at hcs
    obtain ⟨rfl, rfl, rfl⟩ := hcs
    exact ⟨[], rfl, Oct.nil, by simp, by simp, Cells.nil⟩
  · simp at hcs
    obtain ⟨rfl, rfl, rfl⟩ := hcs
    obtain ⟨b, off, spot⟩ := ad
    have hln : n ≤ zs.length := by split at hz <;> omega
    refine ⟨zs.take n, by simp; omega, fun y hy => ?_, by simp; omega, hm, fun k u hu => ?_⟩
    · have := hwz y (List.mem_of_mem_take hy)
      have := bounds_u8 this
      omega
    · simp only [U8, List.getElem?_map, List.getElem?_take, Option.map_eq_some_iff] at hu
      obtain ⟨y, hy, rfl⟩ := hu
      split at hy
      · rename_i hk
        have hc := hcell k (by omega)
        have hspot : spot = none := by simpa [Addr.add] using World.cell?_spot (hcell 0 (by omega))
        subst hspot
        rw [add_mk] at hc
        refine ⟨b, off, rfl, World.block_lt_of_cell? W _ hc, ?_⟩
        rw [hc, List.getD_eq_getElem?_getD, hy]
        rfl
      · cases hy

/-- Bools that came in. -/
theorem bools_in {H : Type} {enc : TypeId × Value → H} {W : World} {base : Nat} {spare : Nat → Bool} {held : Bool} {fuel : Nat} {a : Option Addr} {n c : Nat} {x : DataW H × List MemPlace}
    (h : DataW.trod enc Tryd.prog W base spare held fuel 41 [.slice a n c] = some x) : ∃ l : List Bool, n = l.length ∧ l.length ≤ c ∧ c ≤ maxLen ∧ Cells W W.heap.size a (l.map Value.bool) := by
  rcases open_slice1 Tryd.underlying41 (by kernel_rfl) h with ⟨hcs, _⟩ | ⟨ad, len, cap, m, f, V, D, Pl, hcs, _, hl, hm, hmm, _, hat⟩
  · simp at hcs
    obtain ⟨rfl, rfl, rfl⟩ := hcs
    exact ⟨[], rfl, by simp, by simp, Cells.nil⟩
  · simp at hcs
    obtain ⟨rfl, rfl, rfl⟩ := hcs
    obtain ⟨b, off, spot⟩ := ad
    have hln : n ≤ m := by rw [hmm]; split <;> omega
    have hb : ∀ i, i < m → ∃ y : Bool, V i = .bool y := fun i hi => by
      obtain ⟨y, hy, _⟩ := DataW.trod_bool Tryd.underlying4 (hat i hi).2
      simp at hy
      exact ⟨y, hy⟩
    refine ⟨(List.range n).map (fun i => (match V i with | .bool y => y | _ => false)), by simp, by simp; omega, hm, fun k u hu => ?_⟩
    simp only [List.getElem?_map, Option.map_map, Option.map_eq_some_iff] at hu
    obtain ⟨i, hi, rfl⟩ := hu
    have hk : k < n := by
      rcases Nat.lt_or_ge k n with h | h
      · exact h
      · rw [List.getElem?_eq_none (by simpa using h)] at hi; cases hi
    rw [List.getElem?_range hk] at hi
    injection hi with hi
    subst hi
    obtain ⟨y, hy⟩ := hb k (by omega)
    have hc := (hat k (by omega)).1
    have hspot : spot = none := by simpa [Addr.add] using World.cell?_spot (hat 0 (by omega)).1
    subst hspot
    rw [add_mk] at hc
    refine ⟨b, off, rfl, World.block_lt_of_cell? W _ hc, ?_⟩
    rw [hc, hy]
    simp [hy]

end Go.Proofs.YtpnbmgfnnmmokaaDoor
