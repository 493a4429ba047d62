/-
  A script of acts on a journal that came in; few.
-/
import Derived.Test.YtcgnfkiimnpdcaaRw
import Derived.Test.YtcgnfkiimnpdcaaKb
set_option linter.unusedVariables false
namespace Go.Proofs.Ytcgnfkiimnpdcaa
open Go.ChangeShapes Go.WideShapes Go.ChangeAt Go.RowKit Go.Joins Go.Deep

/-- An act, as it lies in memory. -/
structure OpM where
  kind : Int
  n : Int
  A : Option Addr
  l : List Int
  c : Nat
def OpM.cells (o : OpM) : List Value := [.int .i64 o.kind, .int .i64 o.n, .slice o.A o.l.length o.c]
def I64 (x : Int) : Prop := -9223372036854775808 ≤ x ∧ x ≤ 9223372036854775807
structure OpM.Fits (W : World) (o : OpM) : Prop where
  hk : I64 o.kind
  hn : I64 o.n
  hl : o.l.length ≤ 9223372036854775807
  ho : Oct o.l
  hlc : o.l.length ≤ o.c
  hcm : o.c ≤ 9223372036854775807
  hc : Cells W W.heap.size o.A (U8 o.l)
def opCells (l : List OpM) : List Value := l.flatMap OpM.cells
/-- A script at the address A. -/
structure Ops (W : World) (A : Option Addr) (l : List OpM) : Prop where
  cells : Cells W W.heap.size A (opCells l)
  fits : ∀ o ∈ l, o.Fits W
theorem OpM.Fits.below {W W' : World} {o : OpM} (h : o.Fits W) (hb : Below W.heap.size W W') : o.Fits W' := ⟨h.hk, h.hn, h.hl, h.ho, h.hlc, h.hcm, (h.hc.below hb).whole⟩
theorem Ops.below {W W' : World} {A : Option Addr} {l : List OpM} (h : Ops W A l) (hb : Below W.heap.size W W') : Ops W' A l := ⟨(h.cells.below hb).whole, fun o ho => (h.fits o ho).below hb⟩
theorem opCells_at : ∀ (l : List OpM) (i j : Nat) (hi : i < l.length), j < 3 → (opCells l)[i * 3 + j]? = (l[i]).cells[j]?
  | [], i, j, hi, hj => absurd hi (by simp)
  | o :: r, 0, j, hi, hj => by
    show (o.cells ++ opCells r)[0 * 3 + j]? = o.cells[j]?
    rw [List.getElem?_append_left (by show 0 * 3 + j < 3; omega)]
    congr 1
    omega
  | o :: r, i + 1, j, hi, hj => by
    show (o.cells ++ opCells r)[(i + 1) * 3 + j]? = _
    rw [List.getElem?_append_right (by show 3 ≤ _; omega)]
    have e : (i + 1) * 3 + j - o.cells.length = i * 3 + j := by show _ - 3 = _; omega
    rw [e, opCells_at r i j (by simpa using hi) hj]
    rfl
theorem opCells_len (l : List OpM) : (opCells l).length = l.length * 3 := by
  induction l with
  | nil => rfl
  | cons o r ih =>
    show (o.cells ++ opCells r).length = _
    rw [List.length_append, ih]
    show 3 + _ = _
    simp; omega
/-- The three cells of the act number i. -/
theorem Ops.at_ {W : World} {A : Option Addr} {l : List OpM} (h : Ops W A l) {i : Nat} (hi : i < l.length) :
    ∃ b off, A = some ⟨b, off, none⟩ ∧ b < W.heap.size ∧ W.cell? ⟨b, off + i * 3, none⟩ = some (.int .i64 (l[i]).kind) ∧ W.cell? ⟨b, off + i * 3 + 1, none⟩ = some (.int .i64 (l[i]).n) ∧ W.cell? ⟨b, off + i * 3 + 2, none⟩ = some (.slice (l[i]).A (l[i]).l.length (l[i]).c) := by
  obtain ⟨b, off, rfl, hb, hc⟩ := h.cells.form (fun x => by
    have := opCells_len l
    rw [x] at this
    simp at this
    omega)
  refine ⟨b, off, rfl, hb, ?_, ?_, ?_⟩
  · exact hc (i * 3) _ (opCells_at l i 0 hi (by omega))
  · exact hc (i * 3 + 1) _ (opCells_at l i 1 hi (by omega))
  · exact hc (i * 3 + 2) _ (opCells_at l i 2 hi (by omega))

/-- One act that came in: three cells. -/
theorem op_in {H : Type} {enc : TypeId × Value → H} {W : World} {base : Nat} {spare : Nat → Bool} {held : Bool} {fuel : Nat} {cs : List Value} {x : DataW H × List MemPlace}
    (h : DataW.trod enc Try.prog W base spare held fuel 75 cs = some x) : ∃ o : OpM, cs = o.cells ∧ o.Fits W := by
  obtain ⟨ys, n, _, hy, hlen, hyl, hf⟩ := DataW.trod_struct Try.underlying75 h
  have h4 : Try.prog.cellsOf 75 = 3 := by kernel_rfl
  rw [h4] at hlen
  match cs, hlen with
  | [c0, c1, c2], _ =>
    have ci : Try.prog.cellsOf 3 = 1 := by kernel_rfl
    have hy4 : ys.length = 3 := hyl
    have k0 : DataW.trod enc Try.prog W base spare held n 3 (([c0, c1, c2].drop 0).take (Try.prog.cellsOf 3)) = ys[0]? := hf 0 _ rfl
    have k1 : DataW.trod enc Try.prog W base spare held n 3 (([c0, c1, c2].drop 1).take (Try.prog.cellsOf 3)) = ys[1]? := hf 1 _ rfl
    have c8 : Try.prog.cellsOf 27 = 1 := by kernel_rfl
    have k2 : DataW.trod enc Try.prog W base spare held n 27 (([c0, c1, c2].drop 2).take (Try.prog.cellsOf 27)) = ys[2]? := hf 2 _ rfl
    rw [ci, List.getElem?_eq_getElem (by omega)] at k0 k1
    rw [c8, List.getElem?_eq_getElem (by omega)] at k2
    obtain ⟨a0, e0, _, w0⟩ := DataW.trod_int Try.underlying3 k0
    obtain ⟨a1, e1, _, w1⟩ := DataW.trod_int Try.underlying3 k1
    obtain ⟨A2, m2, q2, e2⟩ := slice_form Try.underlying27 k2
    simp at e0 e1 e2
    subst e0 e1 e2
    obtain ⟨l2, rfl, ho2, hl2, hc2, hcell2⟩ := bytes_in (a := A2) (c := q2) k2
    unfold maxLen at hc2
    exact ⟨⟨a0, a1, A2, l2, q2⟩, rfl, bounds_i64 w0, bounds_i64 w1, by show l2.length ≤ _; omega, ho2, hl2, hc2, hcell2⟩

/-- A script that came in. -/
theorem ops_in {H : Type} {enc : TypeId × Value → H} {W : World} {base : Nat} {spare : Nat → Bool} {held : Bool} {fuel : Nat} {a : Option Addr} {n c : Nat} {x : DataW H × List MemPlace}
    (h : DataW.trod enc Try.prog W base spare held fuel 42 [.slice a n c] = some x) : ∃ l : List OpM, n = l.length ∧ l.length ≤ c ∧ c ≤ maxLen ∧ Ops W a l := by
  rcases open_slice Try.underlying42 h with ⟨hcs, _⟩ | ⟨ad, len, cap, m, f, D, Pl, hcs, _, hl, hm, hmm, _, hat⟩
  · simp at hcs
    obtain ⟨rfl, rfl, rfl⟩ := hcs
    exact ⟨[], rfl, by simp, by simp, Cells.nil, by simp⟩
  · simp at hcs
    obtain ⟨rfl, rfl, rfl⟩ := hcs
    obtain ⟨b, off, spot⟩ := ad
    have h4 : Try.prog.cellsOf 75 = 3 := by kernel_rfl
    rw [h4] at hat
    have hln : n ≤ m := by rw [hmm]; split <;> omega
    have hb : ∀ i, ∃ o : OpM, i < n → o.Fits W ∧ ∀ j, j < 3 → W.cell? ((⟨b, off, spot⟩ : Addr).add (i * 3) |>.add j) = o.cells[j]? := fun i => by
      by_cases hi : i < n
      · obtain ⟨cs', hc, ht⟩ := hat i (by omega)
        obtain ⟨o, rfl, hfit⟩ := op_in ht
        obtain ⟨_, _, hcl⟩ := World.cells?_some hc
        exact ⟨o, fun _ => ⟨hfit, hcl⟩⟩
      · exact ⟨⟨0, 0, none, [], 0⟩, fun h => absurd h hi⟩
    obtain ⟨f, hf⟩ : ∃ f : Nat → OpM, ∀ i, i < n → (f i).Fits W ∧ ∀ j, j < 3 → W.cell? ((⟨b, off, spot⟩ : Addr).add (i * 3) |>.add j) = (f i).cells[j]? := ⟨fun i => (hb i).choose, fun i => (hb i).choose_spec⟩
    refine ⟨(List.range n).map f, by simp, by simp; omega, hm, fun k u hu => ?_, fun o ho => ?_⟩
    · have hk : k < (opCells ((List.range n).map f)).length := by
        rcases Nat.lt_or_ge k (opCells ((List.range n).map f)).length with h | h
        · exact h
        · rw [List.getElem?_eq_none h] at hu; cases hu
      rw [opCells_len] at hk
      simp at hk
      have hi : k / 3 < n := by omega
      have e := opCells_at ((List.range n).map f) (k / 3) (k % 3) (by simpa using hi) (Nat.mod_lt _ (by decide))
      rw [show k / 3 * 3 + k % 3 = k by omega, hu] at e
      simp only [List.getElem_map, List.getElem_range] at e
      have hc := (hf _ hi).2 (k % 3) (Nat.mod_lt _ (by decide))
      rw [← e] at hc
      have hc0 := (hf 0 (by omega)).2 0 (by decide)
      have hspot : spot = none := by
        have := World.cell?_spot hc0
        simpa [Addr.add] using this
      subst hspot
      rw [add_mk, add_mk, show off + k / 3 * 3 + k % 3 = off + k by omega] at hc
      exact ⟨b, off, rfl, World.block_lt_of_cell? W _ hc, hc⟩
    · obtain ⟨i, hi, rfl⟩ := List.mem_map.1 ho
      exact (hf i (by simpa using hi)).1

/-- What few answers, as far as the law leans on it. -/
def FewPost (l : List OpM) (w : World) (e : Ending) (w' : World) : Prop := ∃ b : Bool, e = .returned (.bool b) ∧ w = w' ∧ (b = true → l.length ≤ 30 ∧ ∀ o ∈ l, o.l.length ≤ 9000)
set_option maxHeartbeats 2000000 in
theorem few_any (A : Option Addr) (l : List OpM) (c : Nat) (w : World) (h : Ops w A l) (hl : l.length ≤ 9223372036854775807) :
    Calls Try.prog 18 #[.slice A l.length c] w (FewPost l w) := by
  go_enter Try.func18, Try.ntmps18
  go_wp2
  go_loop [3] (fun i => ∃ k : Nat, i = .int .i64 k ∧ k ≤ l.length ∧ k ≤ 100 ∧ (∀ j (hj : j < l.length), j < k → (l[j]).l.length ≤ 9000)) (fun i => 100 - (intOf i).toNat)
  case atStart => exact ⟨0, rfl, by omega, by omega, fun j _ hj => absurd hj (by omega)⟩
  case round =>
    obtain ⟨k, rfl, hk, hk1, hall⟩ := hrel
    have HALL := Lib.hid hall
    clear hall
    by_cases h1 : k < l.length
    · have g1 : (k : Int) < (l.length : Int) := by omega
      by_cases h2 : k < 100
      · have g2 : (k : Int) < 100 := by omega
        obtain ⟨b, off, rfl, hb, c0, c1, c2⟩ := h.at_ h1
        have hfit := h.fits _ (List.getElem_mem h1)
        have hbl := hfit.hl
        have HLK : Hid (∃ o, o = l[k]) := Lib.hid ⟨_, rfl⟩
        obtain ⟨o, ho⟩ := HLK.out
        rw [← ho] at c0 c1 c2 hbl
        have HO := Lib.hid ho
        clear ho hfit HLK
        obtain ⟨kd, n, Ab, lb, cb⟩ := o
        simp only at c0 c1 c2 hbl
        clear c0 c1
        by_cases h3 : 9000 < lb.length
        · have g3 : (9000 : Int) < (lb.length : Int) := by omega
          go_wp2
          go_ret
          exact ⟨_, rfl, rfl, fun x => by cases x⟩
        · have g3 : ¬ (9000 : Int) < (lb.length : Int) := by omega
          go_wp2
          go_round
          case rel => exact ⟨k + 1, by go_num, by omega, by omega, fun j hj hjk => by
            rcases Nat.lt_or_ge j k with x | x
            · exact HALL.out j hj x
            · obtain rfl : j = k := by omega
              rw [← HO.out]
              show lb.length ≤ 9000
              omega⟩
          case measure => simp [intOf]; omega
      · have g2 : ¬ (k : Int) < 100 := by omega
        have g4 : ¬ (l.length : Int) ≤ 30 := by omega
        go_wp2
        go_ret
        exact ⟨_, rfl, rfl, fun x => by cases x⟩
    · have g1 : ¬ (k : Int) < (l.length : Int) := by omega
      by_cases h2 : l.length ≤ 30
      · have g4 : (l.length : Int) ≤ 30 := by omega
        have HFW : Hid (∀ o ∈ l, o.l.length ≤ 9000) := Lib.hid fun o ho => by
          obtain ⟨j, hj, rfl⟩ := List.getElem_of_mem ho
          exact HALL.out j hj (by omega)
        go_wp2
        go_ret
        exact ⟨_, rfl, rfl, fun _ => ⟨h2, HFW.out⟩⟩
      · have g4 : ¬ (l.length : Int) ≤ 30 := by omega
        go_wp2
        go_ret
        exact ⟨_, rfl, rfl, fun x => by cases x⟩
end Go.Proofs.Ytcgnfkiimnpdcaa
