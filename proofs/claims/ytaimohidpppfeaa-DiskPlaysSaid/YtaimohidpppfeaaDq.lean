/-
  A script that came in: a list of acts.
-/
import Derived.Test.YtaimohidpppfeaaDh
import Derived.Test.YtaimohidpppfeaaDp
import Derived.Deep.Slices
import Derived.Deep.Fields
import Derived.ChangeSame
set_option linter.unusedVariables false
namespace Go.Proofs.Ytaimohidpppfeaa
open Go.ChangeShapes Go.WideShapes Go.ChangeAt Go.RowKit Go.Joins Go.Deep

/-- An act, as it lies in memory. -/
structure OpD where
  kind : Int
  n : Int
  m : Int
  A : Option Addr
  keep : List Bool
  c : Nat
def OpD.cells (o : OpD) : List Value := [.int .i64 o.kind, .int .i64 o.n, .int .i64 o.m, .slice o.A o.keep.length o.c]
def I64 (x : Int) : Prop := -9223372036854775808 ≤ x ∧ x ≤ 9223372036854775807
structure OpD.Fits (W : World) (o : OpD) : Prop where
  hk : I64 o.kind
  hn : I64 o.n
  hm : I64 o.m
  hl : o.keep.length ≤ 9223372036854775807
  hc : Cells W W.heap.size o.A (o.keep.map Value.bool)
def opCells (l : List OpD) : List Value := l.flatMap OpD.cells
/-- A script at the address A. -/
structure Ops (W : World) (A : Option Addr) (l : List OpD) : Prop where
  cells : Cells W W.heap.size A (opCells l)
  fits : ∀ o ∈ l, o.Fits W
theorem Ops.below {W W' : World} {A : Option Addr} {l : List OpD} (h : Ops W A l) (hb : Below W.heap.size W W') : Ops W' A l :=
  ⟨(h.cells.below hb).whole, fun o ho => ⟨(h.fits o ho).hk, (h.fits o ho).hn, (h.fits o ho).hm, (h.fits o ho).hl, ((h.fits o ho).hc.below hb).whole⟩⟩
theorem opCells_at : ∀ (l : List OpD) (i j : Nat) (hi : i < l.length), j < 4 → (opCells l)[i * 4 + j]? = (l[i]).cells[j]?
  | [], i, j, hi, hj => absurd hi (by simp)
  | o :: r, 0, j, hi, hj => by
    show (o.cells ++ opCells r)[0 * 4 + j]? = o.cells[j]?
    rw [List.getElem?_append_left (by show 0 * 4 + j < 4; omega)]
    congr 1
    omega
  | o :: r, i + 1, j, hi, hj => by
    show (o.cells ++ opCells r)[(i + 1) * 4 + j]? = _
    rw [List.getElem?_append_right (by show 4 ≤ _; omega)]
    have e : (i + 1) * 4 + j - o.cells.length = i * 4 + j := by show _ - 4 = _; omega
    rw [e, opCells_at r i j (by simpa using hi) hj]
    rfl
theorem opCells_len (l : List OpD) : (opCells l).length = l.length * 4 := by
  induction l with
  | nil => rfl
  | cons o r ih =>
    show (o.cells ++ opCells r).length = _
    rw [List.length_append, ih]
    show 4 + _ = _
    simp; omega
/-- The four cells of the act number i. -/
theorem Ops.at_ {W : World} {A : Option Addr} {l : List OpD} (h : Ops W A l) {i : Nat} (hi : i < l.length) :
    ∃ b off, A = some ⟨b, off, none⟩ ∧ b < W.heap.size ∧ W.cell? ⟨b, off + i * 4, none⟩ = some (.int .i64 (l[i]).kind) ∧ W.cell? ⟨b, off + i * 4 + 1, none⟩ = some (.int .i64 (l[i]).n) ∧ W.cell? ⟨b, off + i * 4 + 2, none⟩ = some (.int .i64 (l[i]).m) ∧ W.cell? ⟨b, off + i * 4 + 3, none⟩ = some (.slice (l[i]).A (l[i]).keep.length (l[i]).c) := by
  obtain ⟨b, off, rfl, hb, hc⟩ := h.cells.form (fun x => by
    have := opCells_len l
    rw [x] at this
    simp at this
    omega)
  refine ⟨b, off, rfl, hb, ?_, ?_, ?_, ?_⟩
  · exact hc (i * 4) _ (opCells_at l i 0 hi (by omega))
  · exact hc (i * 4 + 1) _ (opCells_at l i 1 hi (by omega))
  · exact hc (i * 4 + 2) _ (opCells_at l i 2 hi (by omega))
  · exact hc (i * 4 + 3) _ (opCells_at l i 3 hi (by omega))

/-- Bools that came in. -/
theorem bools_in {H : Type} {enc : TypeId × Value → H} {W : World} {base : Nat} {spare : Nat → Bool} {held : Bool} {fuel : Nat} {a : Option Addr} {n c : Nat} {x : DataW H × List MemPlace}
    (h : DataW.trod enc Try.prog W base spare held fuel 23 [.slice a n c] = some x) : ∃ l : List Bool, n = l.length ∧ l.length ≤ c ∧ c ≤ maxLen ∧ Cells W W.heap.size a (l.map Value.bool) := by
  rcases open_slice1 Try.underlying23 (by kernel_rfl) h with ⟨hcs, _⟩ | ⟨ad, len, cap, m, f, V, D, Pl, hcs, _, hl, hm, hmm, _, hat⟩
  · simp at hcs
    obtain ⟨rfl, rfl, rfl⟩ := hcs
    exact ⟨[], rfl, by simp, by simp, Cells.nil⟩
  · simp at hcs
    obtain ⟨rfl, rfl, rfl⟩ := hcs
    obtain ⟨b, off, spot⟩ := ad
    have hln : n ≤ m := by rw [hmm]; split <;> omega
    have hb : ∀ i, i < m → ∃ y : Bool, V i = .bool y := fun i hi => by
      obtain ⟨y, hy, _⟩ := DataW.trod_bool Try.underlying4 (hat i hi).2
      simp at hy
      exact ⟨y, hy⟩
    refine ⟨(List.range n).map (fun i => (match V i with | .bool y => y | _ => false)), by simp, by simp; omega, hm, fun k u hu => ?_⟩
    simp only [List.getElem?_map, Option.map_map, Option.map_eq_some_iff] at hu
    obtain ⟨i, hi, rfl⟩ := hu
    have hk : k < n := by
      rcases Nat.lt_or_ge k n with h | h
      · exact h
      · rw [List.getElem?_eq_none (by simpa using h)] at hi; cases hi
    rw [List.getElem?_range hk] at hi
    injection hi with hi
    subst hi
    obtain ⟨y, hy⟩ := hb k (by omega)
    have hc := (hat k (by omega)).1
    have hspot : spot = none := by simpa [Addr.add] using World.cell?_spot (hat 0 (by omega)).1
    subst hspot
    rw [add_mk] at hc
    refine ⟨b, off, rfl, World.block_lt_of_cell? W _ hc, ?_⟩
    rw [hc, hy]
    simp [hy]

/-- One act that came in: four cells. -/
theorem op_in {H : Type} {enc : TypeId × Value → H} {W : World} {base : Nat} {spare : Nat → Bool} {held : Bool} {fuel : Nat} {cs : List Value} {x : DataW H × List MemPlace}
    (h : DataW.trod enc Try.prog W base spare held fuel 32 cs = some x) : ∃ o : OpD, cs = o.cells ∧ o.Fits W := by
  obtain ⟨ys, n, _, hy, hlen, hyl, hf⟩ := DataW.trod_struct Try.underlying32 h
  have h4 : Try.prog.cellsOf 32 = 4 := by kernel_rfl
  rw [h4] at hlen
  match cs, hlen with
  | [c0, c1, c2, c3], _ =>
    have ci : Try.prog.cellsOf 3 = 1 := by kernel_rfl
    have cb : Try.prog.cellsOf 23 = 1 := by kernel_rfl
    have hy4 : ys.length = 4 := hyl
    have k0 : DataW.trod enc Try.prog W base spare held n 3 (([c0, c1, c2, c3].drop 0).take (Try.prog.cellsOf 3)) = ys[0]? := hf 0 _ rfl
    have k1 : DataW.trod enc Try.prog W base spare held n 3 (([c0, c1, c2, c3].drop 1).take (Try.prog.cellsOf 3)) = ys[1]? := hf 1 _ rfl
    have k2 : DataW.trod enc Try.prog W base spare held n 3 (([c0, c1, c2, c3].drop 2).take (Try.prog.cellsOf 3)) = ys[2]? := hf 2 _ rfl
    have k3 : DataW.trod enc Try.prog W base spare held n 23 (([c0, c1, c2, c3].drop 3).take (Try.prog.cellsOf 23)) = ys[3]? := hf 3 _ rfl
    rw [ci, List.getElem?_eq_getElem (by omega)] at k0 k1 k2
    rw [cb, List.getElem?_eq_getElem (by omega)] at k3
    obtain ⟨a0, e0, _, w0⟩ := DataW.trod_int Try.underlying3 k0
    obtain ⟨a1, e1, _, w1⟩ := DataW.trod_int Try.underlying3 k1
    obtain ⟨a2, e2, _, w2⟩ := DataW.trod_int Try.underlying3 k2
    obtain ⟨A, m, c, e3⟩ := slice_form Try.underlying23 k3
    simp at e0 e1 e2 e3
    subst e0 e1 e2 e3
    obtain ⟨l, rfl, hl, hc, hcell⟩ := bools_in (a := A) (c := c) k3
    unfold maxLen at hc
    exact ⟨⟨a0, a1, a2, A, l, c⟩, rfl, bounds_i64 w0, bounds_i64 w1, bounds_i64 w2, by show l.length ≤ _; omega, hcell⟩

/-- A script that came in. -/
theorem ops_in {H : Type} {enc : TypeId × Value → H} {W : World} {base : Nat} {spare : Nat → Bool} {held : Bool} {fuel : Nat} {a : Option Addr} {n c : Nat} {x : DataW H × List MemPlace}
    (h : DataW.trod enc Try.prog W base spare held fuel 22 [.slice a n c] = some x) : ∃ l : List OpD, n = l.length ∧ l.length ≤ c ∧ c ≤ maxLen ∧ Ops W a l := by
  rcases open_slice Try.underlying22 h with ⟨hcs, _⟩ | ⟨ad, len, cap, m, f, D, Pl, hcs, _, hl, hm, hmm, _, hat⟩
  · simp at hcs
    obtain ⟨rfl, rfl, rfl⟩ := hcs
    exact ⟨[], rfl, by simp, by simp, Cells.nil, by simp⟩
  · simp at hcs
    obtain ⟨rfl, rfl, rfl⟩ := hcs
    obtain ⟨b, off, spot⟩ := ad
    have h4 : Try.prog.cellsOf 32 = 4 := by kernel_rfl
    rw [h4] at hat
    have hln : n ≤ m := by rw [hmm]; split <;> omega
    have hb : ∀ i, ∃ o : OpD, i < n → o.Fits W ∧ ∀ j, j < 4 → W.cell? ((⟨b, off, spot⟩ : Addr).add (i * 4) |>.add j) = o.cells[j]? := fun i => by
      by_cases hi : i < n
      · obtain ⟨cs', hc, ht⟩ := hat i (by omega)
        obtain ⟨o, rfl, hfit⟩ := op_in ht
        obtain ⟨_, _, hcl⟩ := World.cells?_some hc
        exact ⟨o, fun _ => ⟨hfit, hcl⟩⟩
      · exact ⟨⟨0, 0, 0, none, [], 0⟩, fun h => absurd h hi⟩
    obtain ⟨f, hf⟩ : ∃ f : Nat → OpD, ∀ i, i < n → (f i).Fits W ∧ ∀ j, j < 4 → W.cell? ((⟨b, off, spot⟩ : Addr).add (i * 4) |>.add j) = (f i).cells[j]? := ⟨fun i => (hb i).choose, fun i => (hb i).choose_spec⟩
    refine ⟨(List.range n).map f, by simp, by simp; omega, hm, fun k u hu => ?_, fun o ho => ?_⟩
    · have hk : k < (opCells ((List.range n).map f)).length := by
        rcases Nat.lt_or_ge k (opCells ((List.range n).map f)).length with h | h
        · exact h
        · rw [List.getElem?_eq_none h] at hu; cases hu
      rw [opCells_len] at hk
      simp at hk
      have hi : k / 4 < n := by omega
      have e := opCells_at ((List.range n).map f) (k / 4) (k % 4) (by simpa using hi) (Nat.mod_lt _ (by decide))
      rw [show k / 4 * 4 + k % 4 = k by omega, hu] at e
      simp only [List.getElem_map, List.getElem_range] at e
      have hc := (hf _ hi).2 (k % 4) (Nat.mod_lt _ (by decide))
      rw [← e] at hc
      have hc0 := (hf 0 (by omega)).2 0 (by decide)
      have hspot : spot = none := by
        have := World.cell?_spot hc0
        simpa [Addr.add] using this
      subst hspot
      rw [add_mk, add_mk, show off + k / 4 * 4 + k % 4 = off + k by omega] at hc
      exact ⟨b, off, rfl, World.block_lt_of_cell? W _ hc, hc⟩
    · obtain ⟨i, hi, rfl⟩ := List.mem_map.1 ho
      exact (hf i (by simpa using hi)).1
end Go.Proofs.Ytaimohidpppfeaa
