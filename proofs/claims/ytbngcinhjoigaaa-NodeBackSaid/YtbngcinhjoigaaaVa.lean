/-
  Rows of rows of bytes that are read alone; a node that came in.
-/
import Derived.Test.YtbngcinhjoigaaaCm
import Derived.Test.YtbngcinhjoigaaaRw
set_option linter.unusedVariables false
namespace Go.Proofs.Ytbngcinhjoigaaa
open Go.ChangeShapes Go.WideShapes Go.ChangeAt Go.RowKit Go.Joins Go.Deep

/-- At A lie the rows ls, each read as bytes. -/
def RowsC (w : World) (A : Option Addr) (ls : List (List Int)) : Prop :=
  ∀ k (h : k < ls.length), ∃ b off A' c, A = some ⟨b, off, none⟩ ∧ b < w.heap.size ∧ w.cell? ⟨b, off + k, none⟩ = some (.slice A' (ls[k]).length c) ∧ Cells w w.heap.size A' (U8 ls[k]) ∧ Oct ls[k] ∧ (ls[k]).length ≤ c ∧ c ≤ 9223372036854775807
theorem RowsC.nil (w : World) (A : Option Addr) : RowsC w A [] := fun k h => absurd h (by simp)
theorem RowsC.below {w w' : World} {A : Option Addr} {ls : List (List Int)} (h : RowsC w A ls) (hb : Below w.heap.size w w') : RowsC w' A ls := fun k hk => by
  obtain ⟨b, off, A', c, e, hlt, hc, hcl, r⟩ := h k hk
  exact ⟨b, off, A', c, e, Nat.lt_of_lt_of_le hlt hb.size, (hb.cell (p := ⟨b, off + k, none⟩) hlt).trans hc, (hcl.below hb).whole, r⟩
theorem RowsAt.rows {W : World} {A : Option Addr} {rs : List RowD} (h : RowsAt W A rs) : RowsC W A (rs.map RowD.l) := fun k hk => by
  rw [List.length_map] at hk
  obtain ⟨b, off, e, hb, hc, hf⟩ := h.at_ hk
  exact ⟨b, off, _, _, e, hb, by rw [List.getElem_map]; exact hc, by rw [List.getElem_map]; exact hf.cells, by rw [List.getElem_map]; exact hf.ho, by rw [List.getElem_map]; exact hf.hl, hf.hc⟩

/-- Whole numbers as values. -/
abbrev I8 (l : List Int) : List Value := l.map (Value.int .i64)
def Ints (l : List Int) : Prop := ∀ x ∈ l, -9223372036854775808 ≤ x ∧ x ≤ 9223372036854775807
theorem Cells.i8 {w : World} {B : Nat} {A : Option Addr} {l : List Int} (h : Cells w B A (I8 l)) {k : Nat} (hk : k < l.length) : ∃ b off, A = some ⟨b, off, none⟩ ∧ b < B ∧ w.cell? ⟨b, off + k, none⟩ = some (.int .i64 (l[k]'hk)) :=
  h k _ (by simp [List.getElem?_eq_getElem hk])

/-- Ints that came in. -/
theorem ints_in {H : Type} {enc : TypeId × Value → H} {W : World} {base : Nat} {spare : Nat → Bool} {held : Bool} {fuel : Nat} {a : Option Addr} {n c : Nat} {x : DataW H × List MemPlace}
    (h : DataW.trod enc Try.prog W base spare held fuel 23 [.slice a n c] = some x) : ∃ l : List Int, n = l.length ∧ Ints l ∧ l.length ≤ c ∧ c ≤ maxLen ∧ Cells W W.heap.size a (I8 l) := by
  rcases open_ints Try.underlying23 Try.underlying3 (by kernel_rfl) h with ⟨hcs, _⟩ | ⟨ad, len, cap, zs, hcs, _, hl, hm, hz, _, hcell, hwz⟩
  · simp at hcs
    obtain ⟨rfl, rfl, rfl⟩ := hcs
    exact ⟨[], rfl, (fun x hx => by cases hx), by simp, by simp, Cells.nil⟩
  · simp at hcs
    obtain ⟨rfl, rfl, rfl⟩ := hcs
    obtain ⟨b, off, spot⟩ := ad
    have hln : n ≤ zs.length := by split at hz <;> omega
    refine ⟨zs.take n, by simp; omega, fun y hy => ?_, by simp; omega, hm, fun k u hu => ?_⟩
    · have := hwz y (List.mem_of_mem_take hy)
      have := bounds_i64 this
      omega
    · simp only [I8, List.getElem?_map, List.getElem?_take, Option.map_eq_some_iff] at hu
      obtain ⟨y, hy, rfl⟩ := hu
      split at hy
      · rename_i hk
        have hc := hcell k (by omega)
        have hspot : spot = none := by simpa [Addr.add] using World.cell?_spot (hcell 0 (by omega))
        subst hspot
        rw [add_mk] at hc
        refine ⟨b, off, rfl, World.block_lt_of_cell? W _ hc, ?_⟩
        rw [hc, List.getD_eq_getElem?_getD, hy]
        rfl
      · cases hy

/-- A node as a value. -/
abbrev nodeV (lf : Bool) (Ak : Option Addr) (ks : List (List Int)) (ck : Nat) (Av : Option Addr) (vs : List (List Int)) (cv : Nat) (Ai : Option Addr) (is : List Int) (ci : Nat) : Value :=
  .agg #[.bool lf, .slice Ak ks.length ck, .slice Av vs.length cv, .slice Ai is.length ci]
/-- What a node's slices hold. -/
structure NodeAt (w : World) (Ak : Option Addr) (ks : List (List Int)) (ck : Nat) (Av : Option Addr) (vs : List (List Int)) (cv : Nat) (Ai : Option Addr) (is : List Int) (ci : Nat) : Prop where
  keys : RowsC w Ak ks
  vals : RowsC w Av vs
  kids : Cells w w.heap.size Ai (I8 is)
  ints : Ints is
  lk : ks.length ≤ ck ∧ ck ≤ 9223372036854775807
  lv : vs.length ≤ cv ∧ cv ≤ 9223372036854775807
  li : is.length ≤ ci ∧ ci ≤ 9223372036854775807
theorem NodeAt.below {w w' : World} {Ak : Option Addr} {ks : List (List Int)} {ck : Nat} {Av : Option Addr} {vs : List (List Int)} {cv : Nat} {Ai : Option Addr} {is : List Int} {ci : Nat} (h : NodeAt w Ak ks ck Av vs cv Ai is ci) (hb : Below w.heap.size w w') : NodeAt w' Ak ks ck Av vs cv Ai is ci :=
  ⟨h.keys.below hb, h.vals.below hb, (h.kids.below hb).whole, h.ints, h.lk, h.lv, h.li⟩

theorem node_in {H : Type} {enc : TypeId × Value → H} {W : World} {base b0 : Nat} {spare : Nat → Bool} {held : Bool} {r : Reach} {v : Value} {d : DataW H} {p : List MemPlace}
    (hv : Value.okWide Try.prog W r b0 25 v) (h : DataW.Trod enc Try.prog W base spare held 25 v d p) :
    ∃ (lf : Bool) (Ak : Option Addr) (ks : List (List Int)) (ck : Nat) (Av : Option Addr) (vs : List (List Int)) (cv : Nat) (Ai : Option Addr) (is : List Int) (ci : Nat), v = nodeV lf Ak ks ck Av vs cv Ai is ci ∧ NodeAt W Ak ks ck Av vs cv Ai is ci := by
  obtain ⟨v0, v1, v2, v3, y0, y1, y2, y3, n, rfl, _, _, h0, h1, h2, h3⟩ := open_agg4 Try.underlying25 (by kernel_rfl) (by kernel_rfl) hv h
  obtain ⟨a, e0, _⟩ := DataW.trod_bool Try.underlying4 h0
  obtain ⟨A1, m1, c1, e1⟩ := slice_form Try.underlying22 h1
  obtain ⟨A2, m2, c2, e2⟩ := slice_form Try.underlying22 h2
  obtain ⟨A3, m3, c3, e3⟩ := slice_form Try.underlying23 h3
  simp at e0 e1 e2 e3
  subst e0 e1 e2 e3
  obtain ⟨r1, rfl, hl1, hc1, hr1⟩ := rows_in h1
  obtain ⟨r2, rfl, hl2, hc2, hr2⟩ := rows_in h2
  obtain ⟨l3, rfl, hi3, hl3, hc3, hr3⟩ := ints_in h3
  unfold maxLen at hc1 hc2 hc3
  exact ⟨a, A1, r1.map RowD.l, c1, A2, r2.map RowD.l, c2, A3, l3, c3, by simp [nodeV], hr1.rows, hr2.rows, hr3, hi3, ⟨by simpa using hl1, hc1⟩, ⟨by simpa using hl2, hc2⟩, hl3, hc3⟩

set_option maxHeartbeats 1000000 in
/-- A node as the reference has it. -/
theorem plain_any (v0 v1 v2 v3 : Value) (lf : Bool) (Ak Av Ai : Option Addr) (nk ck nv cv ni ci : Nat) (w : World) (h0 : v0 = .bool lf) (h1 : v1 = .slice Ak nk ck) (h2 : v2 = .slice Av nv cv) (h3 : v3 = .slice Ai ni ci) :
    Calls Try.prog 9 #[.agg #[v0, v1, v2, v3]] w fun e w' => e = .returned (.agg #[v0, v1, v2, v3]) ∧ Below w.heap.size w w' := by
  subst h0 h1 h2 h3
  go_enter Try.func9, Try.ntmps9
  go_wp2
  exact bodyPost_ret (v := .agg #[.bool lf, .slice Ak nk ck, .slice Av nv cv, .slice Ai ni ci]) (by simp [results, Try.results9, go_sem]) rfl ⟨rfl, by repeat' (first | exact Below.refl _ _ | refine Below.setCell ?_ (by simp) _ | refine Below.alloc ?_ (by simp) _)⟩

/-- What an entry takes; what so many entries take. -/
def entN (lf : Bool) (ks vs : List (List Int)) (i : Nat) : Nat := if lf then 3 + (ks.getD i []).length + (vs.getD i []).length else 5 + (ks.getD i []).length
def sizeTo (lf : Bool) (ks vs : List (List Int)) : Nat → Nat
  | 0 => if lf then 3 else 7
  | k + 1 => sizeTo lf ks vs k + entN lf ks vs k
theorem getD_at {l : List (List Int)} {k : Nat} (h : k < l.length) : l.getD k [] = l[k] := by rw [List.getD_eq_getElem?_getD, List.getElem?_eq_getElem h]; rfl
theorem getD_out {l : List (List Int)} {k : Nat} (h : l.length ≤ k) : l.getD k [] = [] := by rw [List.getD_eq_getElem?_getD, List.getElem?_eq_none h]; rfl

set_option maxHeartbeats 2000000 in
theorem entry_any (lf : Bool) (Ak : Option Addr) (ks : List (List Int)) (ck : Nat) (Av : Option Addr) (vs : List (List Int)) (cv : Nat) (Ai : Option Addr) (is : List Int) (ci : Nat) (k : Nat) (w : World) (h : NodeAt w Ak ks ck Av vs cv Ai is ci) (hk : k < ks.length) (h1 : (ks.getD k []).length ≤ 100000) (h2 : (vs.getD k []).length ≤ 100000) (h3 : ks.length ≤ 100000) (h4 : vs.length ≤ 1000000) :
    Calls Try.prog 35 #[nodeV lf Ak ks ck Av vs cv Ai is ci, .int .i64 k] w fun e w' => e = .returned (.int .i64 (entN lf ks vs k : Nat)) ∧ Below w.heap.size w w' := by
  obtain ⟨b, off, A', c, rfl, hb, hc, _⟩ := h.keys k hk
  rw [getD_at hk] at h1
  cases lf with
  | false =>
    have HE : Hid (entN false ks vs k = 5 + ks[k].length) := Lib.hid (by unfold entN; rw [getD_at hk]; rfl)
    generalize ks[k].length = m at *
    have hkI : (k : Int) < (ks.length : Int) := by omega
    go_enter Try.func35, Try.ntmps35
    go_wp2
    go_ret
    exact ⟨ret_int (by rw [HE.out]; omega), (Below.refl _ _).alloc (Nat.le_refl _) _⟩
  | true =>
    by_cases hv : k < vs.length
    · obtain ⟨bv, offv, A2, c2, rfl, hbv, hcv, _⟩ := h.vals k hv
      rw [getD_at hv] at h2
      have HE : Hid (entN true ks vs k = 3 + ks[k].length + vs[k].length) := Lib.hid (by unfold entN; rw [getD_at hk, getD_at hv]; rfl)
      generalize ks[k].length = m at *
      generalize vs[k].length = m2 at *
      have hkI : (k : Int) < (ks.length : Int) := by omega
      have hvI : (k : Int) < (vs.length : Int) := by omega
      go_enter Try.func35, Try.ntmps35
      go_wp2
      go_quiet (fail)
      go_wp2
      go_ret
      exact ⟨ret_int (by rw [HE.out]; omega), below_drewN ((Below.refl _ _).alloc (Nat.le_refl _) _) _⟩
    · have HE : Hid (entN true ks vs k = 3 + ks[k].length) := Lib.hid (by unfold entN; rw [getD_at hk, getD_out (by omega)]; rfl)
      generalize ks[k].length = m at *
      have hkI : (k : Int) < (ks.length : Int) := by omega
      have hvI : ¬ (k : Int) < (vs.length : Int) := by omega
      go_enter Try.func35, Try.ntmps35
      go_wp2
      go_ret
      exact ⟨ret_int (by rw [HE.out]; omega), (Below.refl _ _).alloc (Nat.le_refl _) _⟩
end Go.Proofs.Ytbngcinhjoigaaa
