/-
  Values (api.Value): plain, and where they lie; a value that came in.
-/
import Derived.Test.YtmobolefijneoaaDoorOw
import Derived.Test.YtmobolefijneoaaDoorDp
import Derived.Deep.Slices
import Derived.Deep.Fields
import Derived.ChangeSame
set_option linter.unusedVariables false
namespace Go.Proofs.YtmobolefijneoaaDoor
open Go.ChangeShapes Go.WideShapes Go.ChangeAt Go.RowKit Go.Joins Go.Deep

/-- A value: its kind, its number, its text, its names, its items. -/
inductive JV where
  | mk (k n : Int) (s : ByteArray) (names : List ByteArray) (items : List JV)
/-- A value, and where it lies. -/
inductive LV where
  | mk (k n : Int) (s : ByteArray) (An : Option Addr) (ns : List ByteArray) (cn : Nat) (Ai : Option Addr) (is : List LV) (ci : Nat)
/-- Its five cells. -/
def LV.cells : LV → List Value
  | .mk k n s An ns cn Ai is ci => [.int .i64 k, .int .i64 n, .string s, .slice An ns.length cn, .slice Ai is.length ci]
def LV.val : LV → Value
  | .mk k n s An ns cn Ai is ci => .agg #[.int .i64 k, .int .i64 n, .string s, .slice An ns.length cn, .slice Ai is.length ci]
mutual
/-- What it is, wherever it lies. -/
def LV.j : LV → JV
  | .mk k n s _ ns _ _ is _ => .mk k n s ns (LV.js is)
def LV.js : List LV → List JV
  | [] => []
  | v :: vs => v.j :: LV.js vs
end
theorem LV.js_map : ∀ is : List LV, LV.js is = is.map LV.j
  | [] => rfl
  | v :: vs => by rw [LV.js, LV.js_map vs]; rfl
mutual
/-- It lies so in w. -/
def LV.At (w : World) : LV → Prop
  | .mk k n s An ns cn Ai is ci => Cells w w.heap.size An (ns.map Value.string) ∧ Cells w w.heap.size Ai (is.flatMap LV.cells) ∧ LV.AllAt w is ∧ (-9223372036854775808 ≤ k ∧ k ≤ 9223372036854775807) ∧ (-9223372036854775808 ≤ n ∧ n ≤ 9223372036854775807) ∧ s.size ≤ 9223372036854775807 ∧ (∀ x ∈ ns, x.size ≤ 9223372036854775807) ∧ (ns.length ≤ cn ∧ cn ≤ 9223372036854775807) ∧ (is.length ≤ ci ∧ ci ≤ 9223372036854775807)
def LV.AllAt (w : World) : List LV → Prop
  | [] => True
  | v :: vs => v.At w ∧ LV.AllAt w vs
end
theorem LV.allAt {w : World} : ∀ {is : List LV}, LV.AllAt w is ↔ ∀ x ∈ is, x.At w
  | [] => by simp [LV.AllAt]
  | v :: vs => by simp [LV.AllAt, LV.allAt (is := vs)]
mutual
theorem LV.At.below {w w' : World} (hb : Below w.heap.size w w') : ∀ v : LV, v.At w → v.At w'
  | .mk k n s An ns cn Ai is ci, h => by
    unfold LV.At at h ⊢
    obtain ⟨h1, h2, h3, h4⟩ := h
    exact ⟨(h1.below hb).whole, (h2.below hb).whole, LV.AllAt.below hb is h3, h4⟩
theorem LV.AllAt.below {w w' : World} (hb : Below w.heap.size w w') : ∀ is : List LV, LV.AllAt w is → LV.AllAt w' is
  | [], _ => trivial
  | v :: vs, h => ⟨LV.At.below hb v h.1, LV.AllAt.below hb vs h.2⟩
end
theorem LV.cells_len (v : LV) : v.cells.length = 5 := by cases v; rfl
theorem flat_at : ∀ (is : List LV) (i j : Nat) (hi : i < is.length), j < 5 → (is.flatMap LV.cells)[i * 5 + j]? = (is[i].cells)[j]?
  | [], i, j, hi, _ => absurd hi (by simp)
  | v :: vs, 0, j, hi, hj => by
    rw [List.flatMap_cons, List.getElem?_append_left (by rw [LV.cells_len]; omega), Nat.zero_mul, Nat.zero_add]; rfl
  | v :: vs, i + 1, j, hi, hj => by
    rw [List.flatMap_cons, List.getElem?_append_right (by rw [LV.cells_len]; omega), LV.cells_len, show (i + 1) * 5 + j - 5 = i * 5 + j by omega, flat_at vs i j (by simpa using hi) hj]; rfl

/-- Strings that came in. -/
theorem strs_in {H : Type} {enc : TypeId × Value → H} {W : World} {base : Nat} {spare : Nat → Bool} {held : Bool} {fuel : Nat} {a : Option Addr} {n c : Nat} {x : DataW H × List MemPlace}
    (h : DataW.trod enc Tryd.prog W base spare held fuel 22 [.slice a n c] = some x) : ∃ l : List ByteArray, n = l.length ∧ l.length ≤ c ∧ c ≤ maxLen ∧ Cells W W.heap.size a (l.map Value.string) ∧ ∀ s ∈ l, s.size ≤ maxLen := by
  rcases open_slice1 Tryd.underlying22 (by kernel_rfl) h with ⟨hcs, _⟩ | ⟨ad, len, cap, m, f, V, D, Pl, hcs, _, hl, hm, hmm, _, hat⟩
  · simp at hcs
    obtain ⟨rfl, rfl, rfl⟩ := hcs
    exact ⟨[], rfl, by simp, by simp, Cells.nil, by simp⟩
  · simp at hcs
    obtain ⟨rfl, rfl, rfl⟩ := hcs
    obtain ⟨b, off, spot⟩ := ad
    have hln : n ≤ m := by rw [hmm]; split <;> omega
    have hb : ∀ i, ∃ y : ByteArray, i < m → V i = .string y ∧ y.size ≤ maxLen := fun i => by
      by_cases hi : i < m
      · obtain ⟨y, hy, _, hs⟩ := DataW.trod_string Tryd.underlying9 (hat i hi).2
        simp at hy
        exact ⟨y, fun _ => ⟨hy, hs⟩⟩
      · exact ⟨ByteArray.empty, fun h => absurd h hi⟩
    obtain ⟨Y, hY⟩ := Classical.axiomOfChoice hb
    refine ⟨(List.range n).map Y, by simp, by simp; omega, hm, fun k u hu => ?_, fun s hs => ?_⟩
    · simp only [List.getElem?_map, Option.map_map, Option.map_eq_some_iff] at hu
      obtain ⟨i, hi, rfl⟩ := hu
      have hk : k < n := by
        rcases Nat.lt_or_ge k n with h | h
        · exact h
        · rw [List.getElem?_eq_none (by simpa using h)] at hi; cases hi
      rw [List.getElem?_range hk] at hi
      injection hi with hi
      subst hi
      have hc := (hat k (by omega)).1
      have hspot : spot = none := by simpa [Addr.add] using World.cell?_spot (hat 0 (by omega)).1
      subst hspot
      rw [add_mk] at hc
      refine ⟨b, off, rfl, World.block_lt_of_cell? W _ hc, ?_⟩
      rw [hc, (hY k (by omega)).1]
      rfl
    · obtain ⟨i, hi, rfl⟩ := List.mem_map.1 hs
      exact (hY i (by have := List.mem_range.1 hi; omega)).2

theorem fiveField : ∃ f0 f1 f2 f3 f4 : Field, Tryd.prog.underlying 25 = some (.struct #[f0, f1, f2, f3, f4]) ∧ f0.type = 3 ∧ f1.type = 2 ∧ f2.type = 9 ∧ f3.type = 22 ∧ f4.type = 23 ∧ f0.offset = 0 ∧ f1.offset = 1 ∧ f2.offset = 2 ∧ f3.offset = 3 ∧ f4.offset = 4 :=
  ⟨_, _, _, _, _, Tryd.underlying25, rfl, rfl, rfl, rfl, rfl, rfl, rfl, rfl, rfl, rfl⟩
theorem cellsInt : Tryd.prog.cellsOf 3 = 1 ∧ Tryd.prog.cellsOf 2 = 1 ∧ Tryd.prog.cellsOf 9 = 1 ∧ Tryd.prog.cellsOf 22 = 1 ∧ Tryd.prog.cellsOf 23 = 1 ∧ Tryd.prog.cellsOf 25 = 5 := ⟨by kernel_rfl, by kernel_rfl, by kernel_rfl, by kernel_rfl, by kernel_rfl, by kernel_rfl⟩
theorem list5 {α : Type} {l : List α} (h : l.length = 5) : ∃ a b c d e, l = [a, b, c, d, e] := by
  match l, h with
  | [a, b, c, d, e], _ => exact ⟨a, b, c, d, e, rfl⟩

/-- A value that came in: its five cells. -/
theorem val_cells {H : Type} {enc : TypeId × Value → H} {W : World} {base : Nat} {spare : Nat → Bool} {held : Bool} : ∀ (fuel : Nat) (cs : List Value) (x : DataW H × List MemPlace),
    DataW.trod enc Tryd.prog W base spare held fuel 25 cs = some x → ∃ v : LV, cs = v.cells ∧ v.At W := by
  intro fuel
  induction fuel using Nat.strongRecOn with
  | _ fuel ih =>
  intro cs x h
  obtain ⟨f0, f1, f2, f3, f4, hu, e0, e1, e2, e3, e4, o0, o1, o2, o3, o4⟩ := fiveField
  obtain ⟨k0, k1, k2, k3, k4, k5⟩ := cellsInt
  obtain ⟨xs, n, rfl, rfl, hl, hlen, hf⟩ := DataW.trod_struct hu h
  rw [k5] at hl
  obtain ⟨c0, c1, c2, c3, c4, rfl⟩ := list5 hl
  obtain ⟨y0, y1, y2, y3, y4, rfl⟩ := list5 (hlen.trans rfl : xs.length = 5)
  have h0 := hf 0 f0 rfl
  have h1 := hf 1 f1 rfl
  have h2 := hf 2 f2 rfl
  have h3 := hf 3 f3 rfl
  have h4 := hf 4 f4 rfl
  rw [e0, o0, k0] at h0
  rw [e1, o1, k1] at h1
  rw [e2, o2, k2] at h2
  rw [e3, o3, k3] at h3
  rw [e4, o4, k4] at h4
  simp only [List.drop_zero, List.drop_succ_cons, List.take_succ_cons, List.take_zero, List.getElem?_cons_zero, List.getElem?_cons_succ] at h0 h1 h2 h3 h4
  obtain ⟨a0, q0, _, w0⟩ := DataW.trod_int Tryd.underlying3 h0
  obtain ⟨a1, q1, _, w1⟩ := DataW.trod_int Tryd.underlying2 h1
  obtain ⟨s2, q2, _, w2⟩ := DataW.trod_string Tryd.underlying9 h2
  obtain ⟨A3, n3, m3, q3⟩ := slice_form Tryd.underlying22 h3
  obtain ⟨A4, n4, m4, q4⟩ := slice_form Tryd.underlying23 h4
  simp at q0 q1 q2 q3 q4
  subst q0 q1 q2 q3 q4
  obtain ⟨ns, rfl, g1, g2, g3, g4⟩ := strs_in h3
  have b0 := bounds_i64 w0
  have b1 := bounds_i64 w1
  unfold maxLen at w2 g2 g4
  have hrow : ∃ is : List LV, n4 = is.length ∧ is.length ≤ m4 ∧ m4 ≤ 9223372036854775807 ∧ Cells W W.heap.size A4 (is.flatMap LV.cells) ∧ LV.AllAt W is := by
    rcases DataW.trod_slice Tryd.underlying23 h4 with ⟨hcs, _⟩ | ⟨ad, len, cap, elems, rest, nn, hnn, hcs, _, hba, hlc, hcm, hel, hat, _, _⟩
    · simp at hcs
      obtain ⟨rfl, rfl, rfl⟩ := hcs
      exact ⟨[], rfl, by simp, by simp, Cells.nil, trivial⟩
    · simp at hcs
      obtain ⟨rfl, rfl, rfl⟩ := hcs
      unfold maxLen at hcm
      obtain ⟨b, off, spot⟩ := ad
      have hv : ∀ i, ∃ v : LV, i < n4 → v.At W ∧ W.cells? base ((⟨b, off, spot⟩ : Addr).add (i * 5)) 5 = some v.cells := fun i => by
        by_cases hi : i < n4
        · have h5 := hat i hi
          rw [k5] at h5
          rw [List.getElem?_eq_getElem (by omega)] at h5
          rw [Option.bind_eq_some_iff] at h5
          obtain ⟨cs, hc1, hc2⟩ := h5
          obtain ⟨v, rfl, hv⟩ := ih nn (by omega) cs _ hc2
          exact ⟨v, fun _ => ⟨hv, hc1⟩⟩
        · exact ⟨.mk 0 0 ByteArray.empty none [] 0 none [] 0, fun h => absurd h hi⟩
      obtain ⟨Y, hY⟩ := Classical.axiomOfChoice hv
      refine ⟨(List.range n4).map Y, by simp, by simp; omega, hcm, fun k u hu => ?_, LV.allAt.2 fun v hv => ?_⟩
      · have hk5 : k < n4 * 5 := by
          have := (List.getElem?_eq_some_iff.1 hu).1
          have e : ((List.range n4).map Y).flatMap LV.cells = ((List.range n4).map Y).flatMap LV.cells := rfl
          rw [List.length_flatMap] at this
          have e2 : ((List.map Y (List.range n4)).map (fun a => a.cells.length)).sum = n4 * 5 := by
            have : (List.map Y (List.range n4)).map (fun a => a.cells.length) = List.replicate n4 5 := by
              rw [List.eq_replicate_iff]
              refine ⟨by simp, fun b hb => ?_⟩
              obtain ⟨a, _, rfl⟩ := List.mem_map.1 hb
              exact LV.cells_len a
            rw [this, List.sum_replicate_nat]
          omega
        have hi : k / 5 < n4 := by omega
        have hd : k = k / 5 * 5 + k % 5 := by omega
        rw [hd, flat_at _ (k / 5) (k % 5) (by simpa using hi) (by omega)] at hu
        have h0 := (World.cells?_some (hY 0 (by omega)).2).2.2 0 (by omega)
        have h8 := (World.cells?_some (hY (k / 5) hi).2).2.2 (k % 5) (by omega)
        rw [Nat.zero_mul, Deep.add_add] at h0
        rw [Deep.add_add, ← hd] at h8
        have hspot : spot = none := by
          have h9 : W.cell? ((⟨b, off, spot⟩ : Addr).add (0 + 0)) = some ((Y 0).cells[0]'(by rw [LV.cells_len]; omega)) := by rw [h0, List.getElem?_eq_getElem]
          simpa [Addr.add] using World.cell?_spot h9
        subst hspot
        rw [List.getElem_map, List.getElem_range] at hu
        rw [hu, add_mk] at h8
        exact ⟨b, off, rfl, World.block_lt_of_cell? W _ h8, h8⟩
      · obtain ⟨i, hi, rfl⟩ := List.mem_map.1 hv
        exact (hY i (List.mem_range.1 hi)).1
  obtain ⟨is, rfl, i1, i2, i3, i4⟩ := hrow
  refine ⟨.mk a0 a1 s2 A3 ns m3 A4 is m4, rfl, ?_⟩
  unfold LV.At
  exact ⟨g3, i3, i4, by omega, by omega, by omega, fun x hx => by have := g4 x hx; omega, ⟨g1, by omega⟩, ⟨i1, i2⟩⟩
theorem val_in {H : Type} {enc : TypeId × Value → H} {W : World} {base b0 : Nat} {spare : Nat → Bool} {held : Bool} {r : Reach} {v : Value} {d : DataW H} {p : List MemPlace}
    (hv : Value.okWide Tryd.prog W r b0 25 v) (h : DataW.Trod enc Tryd.prog W base spare held 25 v d p) : ∃ j : LV, v = j.val ∧ j.At W := by
  obtain ⟨f0, f1, f2, f3, f4, hu, _⟩ := fiveField
  obtain ⟨cs, rfl, _⟩ := okWide_struct hu hv
  obtain ⟨fuel, hf⟩ := h
  obtain ⟨j, hj, hA⟩ := val_cells fuel _ _ hf
  refine ⟨j, ?_, hA⟩
  cases j
  simp only [Value.cells, LV.cells] at hj
  unfold LV.val
  congr 1
  exact Array.ext' hj
end Go.Proofs.YtmobolefijneoaaDoor
