/-
  NodeReads: its walk.
-/
import Derived.Test.YtbngcinhjoigaaaVx
set_option linter.unusedVariables false
namespace Go.Proofs.Ytbngcinhjoigaaa
open Go.RowKit

/-- An answer of a reader: the node lf, ks, vs, is, the error E. -/
def NodeRes (lf : Bool) (ks vs : List (List Int)) (is : List Int) (E : Int) (w : World) (e : Ending) (w' : World) : Prop :=
  (∃ Ak ck Av cv Ai ci, e = .returned (.tuple #[nodeV lf Ak ks ck Av vs cv Ai is ci, .int .i64 E]) ∧ NodeAt w' Ak ks ck Av vs cv Ai is ci) ∧ Below w.heap.size w w'
theorem NodeAt.zero (w : World) : NodeAt w none [] 0 none [] 0 none [] 0 := ⟨RowsC.nil _ _, RowsC.nil _ _, Cells.nil, (fun x hx => by cases hx), by decide, by decide, by decide⟩
theorem page_bounds {lf : Bool} {ks vs : List (List Int)} {is : List Int} (h : frmB lf ks vs is = true) : LenLe ks 100000 ∧ LenLe vs 100000 ∧ ks.length ≤ 1024 ∧ vs.length ≤ 1024 ∧ is.length ≤ 1025 := by
  unfold frmB at h
  rw [Bool.and_eq_true] at h
  have hsz : sizeTo lf ks vs ks.length ≤ 1024 := of_decide_eq_true h.2
  have hfew := few_keys lf ks vs ks.length
  obtain ⟨hK, hV, _, hL⟩ : ShapedP lf ks vs is := of_decide_eq_true h.1
  have hk : ks.length ≤ 1024 := by omega
  refine ⟨fun x hx => ?_, hV.mono (by omega), hk, ?_, ?_⟩
  · obtain ⟨i, hi, rfl⟩ := List.getElem_of_mem hx
    have := (hK i hi).2.1
    rw [getD_at hi] at this
    omega
  · split at hL <;> omega
  · split at hL <;> omega
/-- What bytes are read as: one answer for all readers. -/
theorem read_form (l : List Int) : ∃ (lf : Bool) (ks vs : List (List Int)) (is : List Int) (E : Int), (LenLe ks 100000 ∧ LenLe vs 100000 ∧ ks.length ≤ 1024 ∧ vs.length ≤ 1024 ∧ is.length ≤ 1025) ∧ ((E = 0 ∧ IsPage l lf ks vs is) ∨ (E = 11 ∧ ∀ (lf : Bool) (ks vs : List (List Int)) (is : List Int), ¬ IsPage l lf ks vs is)) ∧ ∀ w e w', ReadRes l w e w' → NodeRes lf ks vs is E w e w' := by
  by_cases h : ∃ (lf : Bool) (ks vs : List (List Int)) (is : List Int), IsPage l lf ks vs is
  · obtain ⟨lf, ks, vs, is, hp⟩ := h
    refine ⟨lf, ks, vs, is, 0, page_bounds hp.1, .inl ⟨rfl, hp⟩, fun w e w' hr => ⟨?_, hr.2⟩⟩
    rcases hr.1 with ⟨lf', Ak, ks', ck, Av, vs', cv, Ai, is', ci, hp', he, hn⟩ | ⟨hno, _⟩
    · obtain ⟨rfl, rfl, rfl, rfl⟩ := hp.one hp'
      exact ⟨Ak, ck, Av, cv, Ai, ci, he, hn⟩
    · exact absurd hp (hno _ _ _ _)
  · have hno : ∀ (lf : Bool) (ks vs : List (List Int)) (is : List Int), ¬ IsPage l lf ks vs is := fun lf ks vs is hp => h ⟨lf, ks, vs, is, hp⟩
    refine ⟨false, [], [], [], 11, ⟨LenLe.nil' rfl, LenLe.nil' rfl, by decide, by decide, by decide⟩, .inr ⟨rfl, hno⟩, fun w e w' hr => ⟨?_, hr.2⟩⟩
    rcases hr.1 with ⟨lf', Ak, ks', ck, Av, vs', cv, Ai, is', ci, hp', _, _⟩ | ⟨_, he⟩
    · exact absurd hp' (hno _ _ _ _)
    · exact ⟨none, 0, none, 0, none, 0, he, NodeAt.zero w'⟩

set_option maxRecDepth 8000 in
set_option maxHeartbeats 8000000 in
theorem reads_walk (A : Option Addr) (l : List Int) (c : Nat) (w : World) (ha : Cells w w.heap.size A (U8 l)) (ho : Oct l) (hcap : l.length ≤ c ∧ c ≤ 9223372036854775807) :
    Calls Try.prog 5 #[.slice A l.length c] w fun e w' => e = .returned (.bool true) ∧ Below w.heap.size w w' := by
  by_cases hk : 3000 < l.length
  · have hkI : (3000 : Int) < (l.length : Int) := by omega
    go_enter Try.func5, Try.ntmps5
    go_wp2_with fail
    refine (awake_any w).mono ?_
    rintro e w1 ⟨rfl, hb1⟩
    go_wp2_with fail
    refine (awake_any w1).mono ?_
    rintro e w2 ⟨rfl, hb2⟩
    go_wp2
    go_ret
    exact ⟨rfl, hb1.trans (hb2.mono hb1.size)⟩
  · have hkI : ¬ (3000 : Int) < (l.length : Int) := by omega
    obtain ⟨lf, ks, vs, is, E, ⟨s1, s2, s3, s4, s5⟩, _, hres⟩ := read_form l
    have HR1 : Hid (∀ w1, Below w.heap.size w w1 → Calls Try.prog 15 #[.slice A l.length c] w1 (NodeRes lf ks vs is E w1)) := Lib.hid fun w1 hb => (read_any A l c w1 (ha.below hb).whole ho (by omega) hcap).mono fun e w' h => hres _ _ _ h
    have HR2 : Hid (∀ w1, Below w.heap.size w w1 → Calls Try.prog 16 #[.slice A l.length c] w1 (NodeRes lf ks vs is E w1)) := Lib.hid fun w1 hb => (rread_any A l c w1 (ha.below hb).whole ho hcap).mono fun e w' h => hres _ _ _ h
    clear hres ha
    have hEE : (E == E) = true := by simp
    go_enter Try.func5, Try.ntmps5
    go_wp2_with fail
    refine (awake_any w).mono ?_
    rintro e w1 ⟨rfl, hb1⟩
    go_wp2_with fail
    refine (HR1.out w1 hb1).mono ?_
    rintro e w2 ⟨⟨Ak, ck, Av, cv, Ai, ci, rfl, hn1⟩, hb2⟩
    have hB2 := hb1.trans (hb2.mono hb1.size)
    obtain ⟨W2, hW2⟩ : ∃ W2, W2 = w2.alloc (.cells #[.bool lf, .slice Ak ks.length ck, .slice Av vs.length cv, .slice Ai is.length ci] 25) := ⟨_, rfl⟩
    have hBW2 : Below w2.heap.size w2 W2 := by rw [hW2]; exact (Below.refl _ _).alloc (Nat.le_refl _) _
    have hF2 : Blk W2 w2.heap.size 25 #[.bool lf, .slice Ak ks.length ck, .slice Av vs.length cv, .slice Ai is.length ci] := by rw [hW2]; exact Blk.new w2 _ _
    have hB3 := hB2.trans (hBW2.mono hB2.size)
    have hn2 := hn1.below hBW2
    have HW2 := Lib.hid hW2
    clear hW2 hn1
    go_wp2_with fail
    rw [← HW2.out]
    refine (HR2.out W2 hB3).mono ?_
    rintro e w4 ⟨⟨Bk, dk, Bv, dv, Bi, di, rfl, hn3⟩, hb4⟩
    have hB4 := hB3.trans (hb4.mono hB3.size)
    obtain ⟨W4, hW4⟩ : ∃ W4, W4 = w4.alloc (.cells #[.bool lf, .slice Bk ks.length dk, .slice Bv vs.length dv, .slice Bi is.length di] 29) := ⟨_, rfl⟩
    have hBW4 : Below w4.heap.size w4 W4 := by rw [hW4]; exact (Below.refl _ _).alloc (Nat.le_refl _) _
    have hF4 : Blk W4 w4.heap.size 29 #[.bool lf, .slice Bk ks.length dk, .slice Bv vs.length dv, .slice Bi is.length di] := by rw [hW4]; exact Blk.new w4 _ _
    have hb24 : Below W2.heap.size W2 W4 := hb4.trans (hBW4.mono hb4.size)
    have hG2 : Blk W4 w2.heap.size 25 #[.bool lf, .slice Ak ks.length ck, .slice Av vs.length cv, .slice Ai is.length ci] := hF2.below hb24 hF2.lt
    have hN1 := hn2.below hb24
    have hN2 := hn3.below hBW4
    have hB5 := hB4.trans (hBW4.mono hB4.size)
    have HW4 := Lib.hid hW4
    have l2 := hG2.lt
    have l4 := hF4.lt
    clear hW4 hn2 hn3 hF2 hBW4 hb24
    have HS : Hid (∀ w', Below W4.heap.size W4 w' → Calls Try.prog 17 #[nodeV lf Ak ks ck Av vs cv Ai is ci, nodeV lf Bk ks dk Bv vs dv Bi is di] w' fun e w'' => e = .returned (.bool true) ∧ Below w'.heap.size w' w'') := Lib.hid fun w' hb => rsame_true lf Ak ks ck Av vs cv Ai is ci Bk dk Bv dv Bi di w' (hN1.below hb) (hN2.below hb) s1 s2 (by omega) (by omega) (by omega)
    obtain ⟨c0, c1, c2, c3⟩ : W4.cell? ⟨w2.heap.size, 0, none⟩ = some (.bool lf) ∧ W4.cell? ⟨w2.heap.size, 1, none⟩ = some (.slice Ak ks.length ck) ∧ W4.cell? ⟨w2.heap.size, 2, none⟩ = some (.slice Av vs.length cv) ∧ W4.cell? ⟨w2.heap.size, 3, none⟩ = some (.slice Ai is.length ci) := ⟨hG2.cell 0, hG2.cell 1, hG2.cell 2, hG2.cell 3⟩
    obtain ⟨d0, d1, d2, d3⟩ : W4.cell? ⟨w4.heap.size, 0, none⟩ = some (.bool lf) ∧ W4.cell? ⟨w4.heap.size, 1, none⟩ = some (.slice Bk ks.length dk) ∧ W4.cell? ⟨w4.heap.size, 2, none⟩ = some (.slice Bv vs.length dv) ∧ W4.cell? ⟨w4.heap.size, 3, none⟩ = some (.slice Bi is.length di) := ⟨hF4.cell 0, hF4.cell 1, hF4.cell 2, hF4.cell 3⟩
    go_wp2_with fail
    rw [← HW4.out]
    go_region_held3 (fun w' => (w'.cell? ⟨w2.heap.size, 0, none⟩ = some (.bool lf) ∧ w'.cell? ⟨w2.heap.size, 1, none⟩ = some (.slice Ak ks.length ck) ∧ w'.cell? ⟨w2.heap.size, 2, none⟩ = some (.slice Av vs.length cv) ∧ w'.cell? ⟨w2.heap.size, 3, none⟩ = some (.slice Ai is.length ci)) ∧ w'.cell? ⟨w4.heap.size, 0, none⟩ = some (.bool lf) ∧ w'.cell? ⟨w4.heap.size, 1, none⟩ = some (.slice Bk ks.length dk) ∧ w'.cell? ⟨w4.heap.size, 2, none⟩ = some (.slice Bv vs.length dv) ∧ w'.cell? ⟨w4.heap.size, 3, none⟩ = some (.slice Bi is.length di)) (go_keep)
      (first
        | (go_at_call 9; refine (plain_any _ _ _ _ lf Ak Av Ai ks.length ck vs.length cv is.length ci _ rfl rfl rfl rfl).mono ?_; rintro e w5 ⟨rfl, hb5⟩; have hB5d := (Below.refl W4.heap.size W4).drew.trans hb5; have f0 : w5.cell? ⟨w2.heap.size, 0, none⟩ = some (.bool lf) := (hB5d.cell (p := ⟨w2.heap.size, 0, none⟩) l2).trans c0; have f1 : w5.cell? ⟨w2.heap.size, 1, none⟩ = some (.slice Ak ks.length ck) := (hB5d.cell (p := ⟨w2.heap.size, 1, none⟩) l2).trans c1; have f2 : w5.cell? ⟨w2.heap.size, 2, none⟩ = some (.slice Av vs.length cv) := (hB5d.cell (p := ⟨w2.heap.size, 2, none⟩) l2).trans c2; have f3 : w5.cell? ⟨w2.heap.size, 3, none⟩ = some (.slice Ai is.length ci) := (hB5d.cell (p := ⟨w2.heap.size, 3, none⟩) l2).trans c3; have g0 : w5.cell? ⟨w4.heap.size, 0, none⟩ = some (.bool lf) := (hB5d.cell (p := ⟨w4.heap.size, 0, none⟩) l4).trans d0; have g1 : w5.cell? ⟨w4.heap.size, 1, none⟩ = some (.slice Bk ks.length dk) := (hB5d.cell (p := ⟨w4.heap.size, 1, none⟩) l4).trans d1; have g2 : w5.cell? ⟨w4.heap.size, 2, none⟩ = some (.slice Bv vs.length dv) := (hB5d.cell (p := ⟨w4.heap.size, 2, none⟩) l4).trans d2; have g3 : w5.cell? ⟨w4.heap.size, 3, none⟩ = some (.slice Bi is.length di) := (hB5d.cell (p := ⟨w4.heap.size, 3, none⟩) l4).trans d3)
        | (go_at_call 17; refine (HS.out _ (by exact hB5d)).mono ?_; rintro e w6 ⟨rfl, hb6⟩; have hB6d := hB5d.trans (hb6.mono hB5d.size); have h0 : w6.cell? ⟨w2.heap.size, 0, none⟩ = some (.bool lf) := (hB6d.cell (p := ⟨w2.heap.size, 0, none⟩) l2).trans c0; have h1 : w6.cell? ⟨w2.heap.size, 1, none⟩ = some (.slice Ak ks.length ck) := (hB6d.cell (p := ⟨w2.heap.size, 1, none⟩) l2).trans c1; have h2 : w6.cell? ⟨w2.heap.size, 2, none⟩ = some (.slice Av vs.length cv) := (hB6d.cell (p := ⟨w2.heap.size, 2, none⟩) l2).trans c2; have h3 : w6.cell? ⟨w2.heap.size, 3, none⟩ = some (.slice Ai is.length ci) := (hB6d.cell (p := ⟨w2.heap.size, 3, none⟩) l2).trans c3; have h4 : w6.cell? ⟨w4.heap.size, 0, none⟩ = some (.bool lf) := (hB6d.cell (p := ⟨w4.heap.size, 0, none⟩) l4).trans d0; have h5 : w6.cell? ⟨w4.heap.size, 1, none⟩ = some (.slice Bk ks.length dk) := (hB6d.cell (p := ⟨w4.heap.size, 1, none⟩) l4).trans d1; have h6 : w6.cell? ⟨w4.heap.size, 2, none⟩ = some (.slice Bv vs.length dv) := (hB6d.cell (p := ⟨w4.heap.size, 2, none⟩) l4).trans d2; have h7 : w6.cell? ⟨w4.heap.size, 3, none⟩ = some (.slice Bi is.length di) := (hB6d.cell (p := ⟨w4.heap.size, 3, none⟩) l4).trans d3))
    all_goals
      go_wp2
      go_ret
      exact ⟨rfl, hB5.trans (hB6d.mono hB5.size)⟩
end Go.Proofs.Ytbngcinhjoigaaa
