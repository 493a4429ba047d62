/-
  Arguments that came in: bytes, bools, lists of bytes.
-/
import Derived.Test.YtkjbicenhncpeaaDp
import Derived.Deep.Slices
import Derived.Deep.Fields
import Derived.ChangeSame
set_option linter.unusedVariables false
namespace Go.Proofs.Ytkjbicenhncpeaa
open Go.ChangeShapes Go.WideShapes Go.ChangeAt Go.RowKit Go.Joins Go.Deep

/-- Bytes that came in: a slice, and the numbers in it. -/
theorem bytes_in {H : Type} {enc : TypeId × Value → H} {W : World} {base : Nat} {spare : Nat → Bool} {held : Bool} {fuel : Nat} {a : Option Addr} {n c : Nat} {x : DataW H × List MemPlace}
    (h : DataW.trod enc Try.prog W base spare held fuel 37 [.slice a n c] = some x) : ∃ l : List Int, n = l.length ∧ Oct l ∧ l.length ≤ c ∧ c ≤ maxLen ∧ Cells W W.heap.size a (U8 l) := by
  rcases open_ints Try.underlying37 Try.underlying5 (by kernel_rfl) h with ⟨hcs, _⟩ | ⟨ad, len, cap, zs, hcs, _, hl, hm, hz, _, hcell, hwz⟩
  · simp at hcs
    obtain ⟨rfl, rfl, rfl⟩ := hcs
    exact ⟨[], rfl, Oct.nil, by simp, by simp, Cells.nil⟩
  · simp at hcs
    obtain ⟨rfl, rfl, rfl⟩ := hcs
    obtain ⟨b, off, spot⟩ := ad
    have hln : n ≤ zs.length := by split at hz <;> omega
    refine ⟨zs.take n, by simp; omega, fun y hy => ?_, by simp; omega, hm, fun k u hu => ?_⟩
    · have := hwz y (List.mem_of_mem_take hy)
      have := bounds_u8 this
      omega
    · simp only [U8, List.getElem?_map, List.getElem?_take, Option.map_eq_some_iff] at hu
      obtain ⟨y, hy, rfl⟩ := hu
      split at hy
      · rename_i hk
        have hc := hcell k (by omega)
        have hspot : spot = none := by simpa [Addr.add] using World.cell?_spot (hcell 0 (by omega))
        subst hspot
        rw [add_mk] at hc
        refine ⟨b, off, rfl, World.block_lt_of_cell? W _ hc, ?_⟩
        rw [hc, List.getD_eq_getElem?_getD, hy]
        rfl
      · cases hy

/-- A row of bytes among others: where it lies. -/
structure RowD where
  A : Option Addr
  l : List Int
  c : Nat
def RowD.val (r : RowD) : Value := .slice r.A r.l.length r.c
structure RowD.Fits (W : World) (r : RowD) : Prop where
  ho : Oct r.l
  hl : r.l.length ≤ r.c
  hc : r.c ≤ 9223372036854775807
  cells : Cells W W.heap.size r.A (U8 r.l)
/-- A list of rows of bytes at the address A. -/
structure RowsAt (W : World) (A : Option Addr) (rs : List RowD) : Prop where
  cells : Cells W W.heap.size A (rs.map RowD.val)
  fits : ∀ r ∈ rs, r.Fits W
theorem RowsAt.below {W W' : World} {A : Option Addr} {rs : List RowD} (h : RowsAt W A rs) (hb : Below W.heap.size W W') : RowsAt W' A rs :=
  ⟨(h.cells.below hb).whole, fun r hr => ⟨(h.fits r hr).ho, (h.fits r hr).hl, (h.fits r hr).hc, ((h.fits r hr).cells.below hb).whole⟩⟩
theorem RowsAt.at_ {W : World} {A : Option Addr} {rs : List RowD} (h : RowsAt W A rs) {i : Nat} (hi : i < rs.length) : ∃ b off, A = some ⟨b, off, none⟩ ∧ b < W.heap.size ∧ W.cell? ⟨b, off + i, none⟩ = some (.slice (rs[i]).A (rs[i]).l.length (rs[i]).c) ∧ (rs[i]).Fits W := by
  obtain ⟨b, off, e, hb, hc⟩ := h.cells i (rs[i]).val (by rw [List.getElem?_map, List.getElem?_eq_getElem hi]; rfl)
  exact ⟨b, off, e, hb, hc, h.fits _ (List.getElem_mem hi)⟩
/-- Lists of bytes that came in. -/
theorem rows_in {H : Type} {enc : TypeId × Value → H} {W : World} {base : Nat} {spare : Nat → Bool} {held : Bool} {fuel : Nat} {a : Option Addr} {n c : Nat} {x : DataW H × List MemPlace}
    (h : DataW.trod enc Try.prog W base spare held fuel 52 [.slice a n c] = some x) : ∃ rs : List RowD, n = rs.length ∧ rs.length ≤ c ∧ c ≤ maxLen ∧ RowsAt W a rs := by
  rcases open_slice1 Try.underlying52 (by kernel_rfl) h with ⟨hcs, _⟩ | ⟨ad, len, cap, m, f, V, D, Pl, hcs, _, hl, hm, hmm, _, hat⟩
  · simp at hcs
    obtain ⟨rfl, rfl, rfl⟩ := hcs
    exact ⟨[], rfl, by simp, by simp, Cells.nil, by simp⟩
  · simp at hcs
    obtain ⟨rfl, rfl, rfl⟩ := hcs
    obtain ⟨b, off, spot⟩ := ad
    have hln : n ≤ m := by rw [hmm]; split <;> omega
    have hb : ∀ i, ∃ r : RowD, i < n → r.Fits W ∧ V i = r.val := fun i => by
      by_cases hi : i < n
      · have ht := (hat i (by omega)).2
        obtain ⟨A', m', c', e⟩ := slice_form Try.underlying37 ht
        simp at e
        rw [e] at ht
        obtain ⟨l, rfl, ho, hl', hc', hcl⟩ := bytes_in ht
        unfold maxLen at hc'
        exact ⟨⟨A', l, c'⟩, fun _ => ⟨⟨ho, hl', hc', hcl⟩, e⟩⟩
      · exact ⟨⟨none, [], 0⟩, fun h => absurd h hi⟩
    obtain ⟨f, hf⟩ : ∃ f : Nat → RowD, ∀ i, i < n → (f i).Fits W ∧ V i = (f i).val := ⟨fun i => (hb i).choose, fun i => (hb i).choose_spec⟩
    refine ⟨(List.range n).map f, by simp, by simp; omega, hm, fun k u hu => ?_, fun o ho => ?_⟩
    · simp only [List.getElem?_map, Option.map_map, Option.map_eq_some_iff] at hu
      obtain ⟨i, hi, rfl⟩ := hu
      have hk : k < n := by
        rcases Nat.lt_or_ge k n with h | h
        · exact h
        · rw [List.getElem?_eq_none (by simpa using h)] at hi; cases hi
      rw [List.getElem?_range hk] at hi
      injection hi with hi
      subst hi
      have hc := (hat k (by omega)).1
      have hspot : spot = none := by simpa [Addr.add] using World.cell?_spot (hat 0 (by omega)).1
      subst hspot
      rw [add_mk] at hc
      refine ⟨b, off, rfl, World.block_lt_of_cell? W _ hc, ?_⟩
      rw [hc, (hf k hk).2]
      rfl
    · obtain ⟨i, hi, rfl⟩ := List.mem_map.1 ho
      exact (hf i (by simpa using hi)).1
end Go.Proofs.Ytkjbicenhncpeaa
