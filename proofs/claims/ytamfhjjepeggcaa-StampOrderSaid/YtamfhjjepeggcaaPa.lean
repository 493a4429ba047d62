/-
  From readings of arguments to what the walks ask: a key (three fields), bytes.
-/
import Derived.Test.YtamfhjjepeggcaaKit
import Derived.Test.YtamfhjjepeggcaaRows
import Derived.ProofKit
import Derived.OpenShut
import Derived.ShutString
import Derived.ChangeOld
import Derived.Below
import Derived.Lib.SmallJoins
set_option linter.unusedVariables false
namespace Go.Proofs.Ytamfhjjepeggcaa
open Go.ChangeShapes Go.WideShapes Go.ChangeAt Go.RowKit Go.Joins

theorem own : ownKnob Try.prog.godebug = none := by kernel_rfl
theorem laidOut : laidOutB Try.prog = true := by kernel_rfl

/-- Bytes that came in: a slice, and the numbers in it. -/
theorem bytes_in {H : Type} {enc : TypeId × Value → H} {W : World} {base : Nat} {spare : Nat → Bool} {held : Bool} {fuel : Nat} {a : Option Addr} {n c : Nat} {x : DataW H × List MemPlace}
    (h : DataW.trod enc Try.prog W base spare held fuel 22 [.slice a n c] = some x) : ∃ l : List Int, n = l.length ∧ Oct l ∧ l.length ≤ c ∧ c ≤ maxLen ∧ Cells W W.heap.size a (U8 l) := by
  rcases open_ints Try.underlying22 Try.underlying5 (by kernel_rfl) h with ⟨hcs, _⟩ | ⟨ad, len, cap, zs, hcs, _, hl, hm, hz, _, hcell, hwz⟩
  · simp at hcs
    obtain ⟨rfl, rfl, rfl⟩ := hcs
    exact ⟨[], rfl, Oct.nil, by simp, by simp, Cells.nil⟩
  · simp at hcs
    obtain ⟨rfl, rfl, rfl⟩ := hcs
    obtain ⟨b, off, spot⟩ := ad
    have hln : n ≤ zs.length := by split at hz <;> omega
    refine ⟨zs.take n, by simp; omega, fun y hy => ?_, by simp; omega, hm, fun k u hu => ?_⟩
    · have := hwz y (List.mem_of_mem_take hy)
      have := bounds_u8 this
      omega
    · simp only [U8, List.getElem?_map, List.getElem?_take, Option.map_eq_some_iff] at hu
      obtain ⟨y, hy, rfl⟩ := hu
      split at hy
      · rename_i hk
        have hc := hcell k (by omega)
        have hspot : spot = none := by simpa [Addr.add] using World.cell?_spot (hcell 0 (by omega))
        subst hspot
        rw [add_mk] at hc
        refine ⟨b, off, rfl, World.block_lt_of_cell? W _ hc, ?_⟩
        rw [hc, List.getD_eq_getElem?_getD, hy]
        rfl
      · cases hy

/-- A key that came in. -/
theorem key_in {H : Type} {enc : TypeId × Value → H} {W : World} {base b0 : Nat} {spare : Nat → Bool} {held : Bool} {r : Reach} {v : Value} {d : DataW H} {p : List MemPlace}
    (hv : Value.okWide Try.prog W r b0 25 v) (h : DataW.Trod enc Try.prog W base spare held 25 v d p) :
    ∃ (sp : Int) (A : Option Addr) (l : List Int) (c : Nat) (t : Int), v = .agg #[.int .i64 sp, .slice A l.length c, .int .u64 t] ∧ -9223372036854775808 ≤ sp ∧ sp ≤ 9223372036854775807 ∧ Oct l ∧ l.length ≤ 9223372036854775807 ∧ 0 ≤ t ∧ t ≤ 18446744073709551615 ∧ Cells W W.heap.size A (U8 l) := by
  obtain ⟨v0, v1, v2, y0, y1, y2, n, rfl, _, _, h0, h1, h2⟩ := open_agg3 Try.underlying25 (by kernel_rfl) (by kernel_rfl) hv h
  obtain ⟨a, e0, _, wa⟩ := DataW.trod_int Try.underlying3 h0
  obtain ⟨t, e2, _, wt⟩ := DataW.trod_int Try.underlying23 h2
  obtain ⟨A, m, c, e1⟩ := slice_form Try.underlying22 h1
  simp at e0 e1 e2
  subst e0 e1 e2
  obtain ⟨l, rfl, ho, hl, hc, hcell⟩ := bytes_in h1
  have b0 := bounds_i64 wa
  have b2 := bounds_u64 wt
  unfold maxLen at hc
  exact ⟨a, A, l, c, t, rfl, b0.1, b0.2, ho, by omega, b2.1, b2.2, hcell⟩
end Go.Proofs.Ytamfhjjepeggcaa
