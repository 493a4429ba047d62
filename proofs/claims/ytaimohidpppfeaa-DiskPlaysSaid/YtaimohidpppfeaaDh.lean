/-
  Acts.
-/
import Derived.Test.YtaimohidpppfeaaDg
import Derived.Laws.StructEq
set_option linter.unusedVariables false
namespace Go.Proofs.Ytaimohidpppfeaa
open Go.RowKit

/-- What '==' says of two arrays of three numbers. -/
theorem eq3 (a b c x y z : Int) (w : World) : (Op.equalIn 10000 51 (.agg #[.int .i64 a, .int .i64 b, .int .i64 c]) (.agg #[.int .i64 x, .int .i64 y, .int .i64 z])).run Try.prog w = .ok (a == x && b == y && c == z) w := by
  have u3 := Try.underlying2
  have a3 := Try.isAgg2
  have z3 := Try.sizeOf2
  rw [show (10000 : Nat) = 9999 + 1 from rfl, Op.equalIn]
  simp only [Sem.run_bind, run_underlying Try.underlying51, Result.andThen_ok]
  simp only [Std.Legacy.Range.forIn_eq_forIn_range', Std.Legacy.Range.size, Nat.sub_zero, Nat.add_sub_cancel, Nat.div_one, List.range'_succ, List.range'_zero, List.forIn_cons, List.forIn_nil]
  go_simp
  by_cases h1 : a = x <;> by_cases h2 : b = y <;> by_cases h3 : c = z <;> simp [h1, h2, h3]

set_option maxHeartbeats 1000000 in
theorem acts_nil (w : World) :
    Calls Try.prog 24 #[.pointer none] w fun e w' => e = .returned (.agg #[.int .i64 0, .int .i64 0, .int .i64 0]) ∧ Below w.heap.size w w' := by
  go_enter Try.func24, Try.ntmps24
  go_wp2
  exact bodyPost_ret (v := .agg #[.int .i64 0, .int .i64 0, .int .i64 0]) (by simp [results, Try.results24, go_sem]) rfl ⟨rfl, ((Below.refl _ _).alloc (Nat.le_refl _) _).alloc (by simp) _⟩

def actsA (s : DS) : Nat → Array Value
  | 0 => #[.int .i64 0, .int .i64 0, .int .i64 0]
  | 1 => #[.int .i64 s.a0, .int .i64 0, .int .i64 0]
  | 2 => #[.int .i64 s.a0, .int .i64 s.a1, .int .i64 0]
  | _ => #[.int .i64 s.a0, .int .i64 s.a1, .int .i64 s.a2]
def actI (s : DS) : Nat → Int
  | 0 => s.a0
  | 1 => s.a1
  | _ => s.a2

set_option maxHeartbeats 1000000 in
theorem acts_w (g : Nat) (s : DS) (F : Nat → Prop) (w : World) (h : DiskAt w g s F) :
    Calls Try.prog 24 #[.pointer (some ⟨g, 0, none⟩)] w fun e w' => e = .returned (.agg #[.int .i64 s.a0, .int .i64 s.a1, .int .i64 s.a2]) ∧ Below w.heap.size w w' := by
  go_enter Try.func24, Try.ntmps24
  go_wp2
  obtain ⟨r, hr⟩ : ∃ r, r = w.heap.size := ⟨_, rfl⟩
  have hb0 : Blk ((w.alloc (.cells #[.int .i64 0, .int .i64 0, .int .i64 0] 51)).alloc (.cells #[.int .i64 0, .int .i64 0, .int .i64 0] 51)) r 51 #[.int .i64 0, .int .i64 0, .int .i64 0] := by
    rw [hr]
    exact (Blk.new w _ _).alloc _
  have hb1 : Blk ((w.alloc (.cells #[.int .i64 0, .int .i64 0, .int .i64 0] 51)).alloc (.cells #[.int .i64 0, .int .i64 0, .int .i64 0] 51)) (r + 1) 51 (actsA s 0) := by
    rw [hr]
    exact Blk.second w _ _ _
  have hB0 : Below r w ((w.alloc (.cells #[.int .i64 0, .int .i64 0, .int .i64 0] 51)).alloc (.cells #[.int .i64 0, .int .i64 0, .int .i64 0] 51)) := by
    rw [hr]
    exact ((Below.refl _ _).alloc (Nat.le_refl _) _).alloc (by simp) _
  rw [← hr]
  have HR := Lib.hid hr
  clear hr
  generalize (w.alloc (.cells #[.int .i64 0, .int .i64 0, .int .i64 0] 51)).alloc (.cells #[.int .i64 0, .int .i64 0, .int .i64 0] 51) = W at *
  go_loopw [7] (fun i wr => ∃ k : Nat, i = .int .i64 k ∧ k ≤ 3 ∧ Blk wr r 51 #[.int .i64 0, .int .i64 0, .int .i64 0] ∧ Blk wr (r + 1) 51 (actsA s k) ∧ Below r w wr)
    (fun i _ => 3 - (intOf i).toNat)
  case atStart => exact ⟨0, rfl, by omega, hb0, hb1, hB0⟩
  case round =>
    obtain ⟨k, rfl, hk, hc0, hc1, hB⟩ := hrel
    have hD := h.below (w' := wr) (by rw [← HR.out]; exact hB)
    obtain ⟨p, hD, hF⟩ := hD
    have hgr : g < r := by rw [HR.out]; exact h.lt g (by obtain ⟨p', _, h2⟩ := h; exact (h2 g).2 (.inl rfl))
    by_cases hlt : k < 3
    · have hgk : (k : Int) < 3 := by omega
      have hcell : wr.cell? ⟨g, 6 + k, none⟩ = some (.int .i64 (actI s k)) := by
        rw [hD.blk.cell (6 + k)]
        rcases (by omega : k = 0 ∨ k = 1 ∨ k = 2) with rfl | rfl | rfl <;> rfl
      have hold : ∃ v, wr.cell? ⟨r + 1, k, none⟩ = some (.int .i64 v) := by
        rw [hc1.cell k]
        rcases (by omega : k = 0 ∨ k = 1 ∨ k = 2) with rfl | rfl | rfl <;> exact ⟨_, rfl⟩
      obtain ⟨v, hold⟩ := hold
      have zk := hc1.free k
      have hn1 : Blk (wr.setCell ⟨r + 1, k, none⟩ (.int .i64 (actI s k))) (r + 1) 51 (actsA s (k + 1)) := by
        have := hc1.set_ k (.int .i64 (actI s k))
        have e : (actsA s k).setIfInBounds k (.int .i64 (actI s k)) = actsA s (k + 1) := by
          rcases (by omega : k = 0 ∨ k = 1 ∨ k = 2) with rfl | rfl | rfl <;> rfl
        rw [e] at this
        exact this
      have hn0 : Blk (wr.setCell ⟨r + 1, k, none⟩ (.int .i64 (actI s k))) r 51 #[.int .i64 0, .int .i64 0, .int .i64 0] := hc0.far (by show r ≠ r + 1; omega) _
      have hnB : Below r w (wr.setCell ⟨r + 1, k, none⟩ (.int .i64 (actI s k))) := hB.setCell (p := ⟨r + 1, k, none⟩) (by show r ≤ r + 1; omega) _
      go_wp2_with fail
      refine (load_any g (6 + k) (actI s k) wr hcell).mono ?_
      rintro e w1 ⟨rfl, rfl⟩
      go_wp2
      go_roundw
      case rel => exact ⟨k + 1, by go_num, by omega, hn0, hn1, hnB⟩
      case measure => simp [intOf]; omega
    · have hk3 : k = 3 := by omega
      subst hk3
      have d0 : wr.cell? ⟨r + 1, 0, none⟩ = some (.int .i64 s.a0) := hc1.cell 0
      have d1 : wr.cell? ⟨r + 1, 1, none⟩ = some (.int .i64 s.a1) := hc1.cell 1
      have d2 : wr.cell? ⟨r + 1, 2, none⟩ = some (.int .i64 s.a2) := hc1.cell 2
      have x0 : wr.cell? ⟨r, 0, none⟩ = some (.int .i64 0) := hc0.cell 0
      have x1 : wr.cell? ⟨r, 1, none⟩ = some (.int .i64 0) := hc0.cell 1
      have x2 : wr.cell? ⟨r, 2, none⟩ = some (.int .i64 0) := hc0.cell 2
      have z0 := hc0.free 0
      have z1 := hc0.free 1
      have z2 := hc0.free 2
      go_wp2
      have hW := ((hc0.set_ 0 (.int .i64 s.a0)).set_ 1 (.int .i64 s.a1)).set_ 2 (.int .i64 s.a2)
      have hWB : Below r w (((wr.setCell ⟨r, 0, none⟩ (.int .i64 s.a0)).setCell ⟨r, 1, none⟩ (.int .i64 s.a1)).setCell ⟨r, 2, none⟩ (.int .i64 s.a2)) := below_three hB (Nat.le_refl _) _ _ _
      rw [HR.out] at hWB
      exact bodyPost_ret (v := .agg #[.int .i64 s.a0, .int .i64 s.a1, .int .i64 s.a2]) (by simp [results, Try.results24, go_sem, hW.cell]) rfl ⟨rfl, by rw [HR.out]; exact hWB⟩
end Go.Proofs.Ytaimohidpppfeaa
