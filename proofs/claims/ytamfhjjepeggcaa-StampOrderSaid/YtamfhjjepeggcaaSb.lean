/-
  The contract of stamp.Write.
-/
import Derived.Test.YtamfhjjepeggcaaSa
import Derived.Deep.RegionHeld3
import Derived.Outline
set_option linter.unusedVariables false
namespace Go.Proofs.Ytamfhjjepeggcaa
open Go.RowKit

theorem wrongN_ok {sp : Int} {n : Nat} (h : wrongN sp n = 0) : 0 ≤ sp ∧ sp ≤ 255 ∧ n ≤ 200 := by
  unfold wrongN at h
  split at h
  · omega
  · split at h <;> omega

/-- A key's bytes. -/
def writeL (sp : Int) (l : List Int) (t : Int) : List Int := frontL sp l 0 ++ be64 (18446744073709551615 - t)

theorem writeL_len (sp : Int) (l : List Int) (t : Int) : l.length + 11 ≤ (writeL sp l t).length ∧ (writeL sp l t).length ≤ 2 * l.length + 11 := by
  have := esc_len l
  simp only [writeL, List.length_append, frontL_len, be64_len]
  omega

set_option maxHeartbeats 1000000 in
theorem write_no (sp : Int) (A : Option Addr) (l : List Int) (c : Nat) (t : Int) (w : World) (hne : wrongN sp l.length ≠ 0) :
    Calls Try.prog 9 #[.agg #[.int .i64 sp, .slice A l.length c, .int .u64 t]] w fun e w' => e = .returned (.tuple #[.slice none 0 0, .int .i64 (wrongN sp l.length)]) ∧ Below w.heap.size w w' := by
  have hb : (wrongN sp l.length != 0) = true := by simpa using hne
  go_enter Try.func9, Try.ntmps9
  go_wp2_with (go_at_call 22; refine (wrong_any _ _ _ _ _).mono ?_; rintro e w' ⟨rfl, rfl⟩)
  go_ret2
  exact ⟨rfl, (Below.refl _ _).alloc (Nat.le_refl _) _⟩

set_option maxHeartbeats 1000000 in
theorem write_ok (sp : Int) (A : Option Addr) (l : List Int) (c : Nat) (t : Int) (w : World) (hz : wrongN sp l.length = 0) (hc : Cells w w.heap.size A (U8 l)) (ho : Oct l) (ht0 : 0 ≤ t) (ht1 : t ≤ 18446744073709551615) :
    Calls Try.prog 9 #[.agg #[.int .i64 sp, .slice A l.length c, .int .u64 t]] w fun e w' => ∃ v, e = .returned (.tuple #[v, .int .i64 0]) ∧ Own w' w.heap.size v (writeL sp l t) ∧ Below w.heap.size w w' := by
  obtain ⟨h0, h1, h2⟩ := wrongN_ok hz
  have hb : (wrongN sp l.length != 0) = false := by simpa using hz
  have HZ := Lib.hid hz; clear hz
  have hlen := (esc_len l).2
  have hfl := frontL_len sp l 0
  have HF := Lib.hid hfl
  have hfl' : (frontL sp l 0).length ≤ 1000 := by omega
  clear hfl
  go_enter Try.func9, Try.ntmps9
  go_wp2_with (go_at_call 22; refine (wrong_any _ _ _ _ _).mono ?_; rintro e w' ⟨rfl, rfl⟩)
  go_region_held3 (fun w' => w'.cell? ⟨w.heap.size, 0, none⟩ = some (.int .i64 sp) ∧ w'.cell? ⟨w.heap.size, 1, none⟩ = some (.slice A l.length c) ∧ w'.cell? ⟨w.heap.size, 2, none⟩ = some (.int .u64 t)) (go_keep)
    (first
      | (go_at_call 24; refine (front_any sp A l c 0 _ h0 h1 (by omega) (by exact (hc.alloc (Nat.le_refl _) _).drew.more (by simp)) ho).mono ?_; rintro e w1 ⟨v1, rfl, hown1, hb1⟩; have hk1 := fun (p : Addr) (hp : p.block < w.heap.size + 1) => hb1.cell (p := p) (by simpa using hp))
      | (go_at_call 23; rw [not_u64 t ht0 ht1]; refine (append64_any v1 (frontL sp l 0) _ _ (w.heap.size + 1) (by omega) (by omega) (by omega) (by simpa using hown1) (by have := hb1.size; simpa using this)).mono ?_; rintro e w2 ⟨v2, rfl, hown2, hg2⟩; have hk2 := fun (p : Addr) (hp : p.block < w.heap.size + 1) => (hg2.below hown1 hb1.size).cell (p := p) (by simpa using hp)))
  go_wp2
  go_ret2
  refine ⟨v2, rfl, (own_as hown2 rfl).mono (by omega), ?_⟩
  have hb0 : Below w.heap.size w w1 := ((Below.refl _ _).alloc (Nat.le_refl _) _).drew.trans (hb1.mono (by simp))
  exact hb0.trans ((hg2.below hown1 hb1.size).mono (by simp))
end Go.Proofs.Ytamfhjjepeggcaa
