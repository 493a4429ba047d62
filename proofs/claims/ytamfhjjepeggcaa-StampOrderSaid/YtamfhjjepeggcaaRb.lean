/-
  The contracts of munimentref05.Write, munimentref04.Same, munimentref04.Less.
-/
import Derived.Test.YtamfhjjepeggcaaSb
import Derived.Test.YtamfhjjepeggcaaRa
import Derived.Deep.QuietTactic
import Derived.BigQuiet
import Derived.Outline
set_option linter.unusedVariables false
namespace Go.Proofs.Ytamfhjjepeggcaa
open Go.RowKit

theorem wrap_sub (t : Int) (h0 : 0 ≤ t) (h1 : t ≤ 18446744073709551615) : IntKind.u64.wrap (18446744073709551615 - t) = 18446744073709551615 - t := by
  rw [IntKind.wrap_u64]; omega
theorem ret_ts {v : Value} {a b : Int} (h : a = b) : Ending.returned (.tuple #[v, .int .i64 a]) = .returned (.tuple #[v, .int .i64 b]) := by rw [h]

set_option maxHeartbeats 1000000 in
theorem rwrite_no (sp : Int) (A : Option Addr) (l : List Int) (c : Nat) (t : Int) (w : World) (hne : wrongN sp l.length ≠ 0) :
    Calls Try.prog 10 #[.agg #[.int .i64 sp, .slice A l.length c, .int .u64 t]] w fun e w' => e = .returned (.tuple #[.slice none 0 0, .int .i64 (wrongN sp l.length)]) ∧ Below w.heap.size w w' := by
  by_cases h1 : sp < 0
  · have e : wrongN sp l.length = 1 := by simp [wrongN, h1]
    have E := Lib.hid e; clear e hne
    go_enter Try.func10, Try.ntmps10
    go_wp2
    go_ret2
    exact ⟨ret_ts E.out.symm, (Below.refl _ _).alloc (Nat.le_refl _) _⟩
  · by_cases h2 : 255 < sp
    · have e : wrongN sp l.length = 1 := by simp [wrongN, h2]
      have E := Lib.hid e; clear e hne
      go_enter Try.func10, Try.ntmps10
      go_wp2
      go_ret2
      exact ⟨ret_ts E.out.symm, (Below.refl _ _).alloc (Nat.le_refl _) _⟩
    · have h3 : 200 < l.length := by
        rcases Nat.lt_or_ge 200 l.length with h | h
        · exact h
        · exact absurd (by simp [wrongN, h1, h2]; omega) hne
      have e : wrongN sp l.length = 3 := by simp [wrongN, h1, h2, h3]
      have E := Lib.hid e; clear e hne
      go_enter Try.func10, Try.ntmps10
      go_wp2
      go_ret2
      exact ⟨ret_ts E.out.symm, (Below.refl _ _).alloc (Nat.le_refl _) _⟩

set_option maxHeartbeats 2000000 in
theorem rwrite_ok (sp : Int) (A : Option Addr) (l : List Int) (c : Nat) (t : Int) (w : World) (hz : wrongN sp l.length = 0) (hc : Cells w w.heap.size A (U8 l)) (ho : Oct l) (ht0 : 0 ≤ t) (ht1 : t ≤ 18446744073709551615) :
    Calls Try.prog 10 #[.agg #[.int .i64 sp, .slice A l.length c, .int .u64 t]] w fun e w' => ∃ v, e = .returned (.tuple #[v, .int .i64 0]) ∧ Own w' w.heap.size v (writeL sp l t) ∧ Below w.heap.size w w' := by
  obtain ⟨h0, h1, h2⟩ := wrongN_ok hz
  clear hz
  have hlen := (esc_len l).2
  have hfl := frontL_len sp l 0
  have hfl' : (frontL sp l 0).length ≤ 1000 := by omega
  clear hfl
  go_enter Try.func10, Try.ntmps10
  go_wp2
  go_region_held3 (fun w' => w'.cell? ⟨w.heap.size, 0, none⟩ = some (.int .i64 sp) ∧ w'.cell? ⟨w.heap.size, 1, none⟩ = some (.slice A l.length c) ∧ w'.cell? ⟨w.heap.size, 2, none⟩ = some (.int .u64 t)) (go_keep)
    (first
      | (go_at_call 25; refine (rfront_any sp A l c 0 _ h0 h1 (by omega) (by exact (hc.alloc (Nat.le_refl _) _).drew.more (by simp)) ho).mono ?_; rintro e w1 ⟨v1, rfl, hown1, hb1⟩; have hk1 := fun (p : Addr) (hp : p.block < w.heap.size + 1) => hb1.cell (p := p) (by simpa using hp); have hs1 : w.heap.size + 1 ≤ w1.heap.size := by have := hb1.size; simpa using this)
      | (go_at_call 26; rw [wrap_sub t ht0 ht1]; refine (big_any _ _ (by omega) (by omega)).mono ?_; rintro e w2 ⟨rfl, rfl⟩)
      | (refine app_step rfl (.tmp 20) (.tmp 24) rfl (w.heap.size + 1) v1 (frontL sp l 0) rfl (by exact Own.alloc (by simpa using hown1) _) _ _ 8 (be64 (18446744073709551615 - t)) rfl (cells_new _ _) (by rw [be64_len]; omega) (by simp; omega) ?_; intro v2 w3 hown2 hg2; have hk2 := fun (p : Addr) (hp : p.block < w.heap.size + 1) => (hg2.below (hown1.alloc _) (by simp; omega)).cell (p := p) (by simpa using hp)))
  go_wp2
  go_ret2
  refine ⟨v2, rfl, (own_as hown2 rfl).mono (by omega), ?_⟩
  have hb0 : Below w.heap.size w w1 := ((Below.refl _ _).alloc (Nat.le_refl _) _).drew.trans (hb1.mono (by simp))
  exact (hb0.alloc (by omega) _).trans ((hg2.below (hown1.alloc _) (by simp; omega)).mono (by simp))

/-- Are two rows alike? -/
def sameB (a b : List Int) : Bool := decide (a = b)

set_option maxHeartbeats 1000000 in
theorem same_any (A B : Option Addr) (a b : List Int) (c d : Nat) (w : World) (ha : Cells w w.heap.size A (U8 a)) (hb : Cells w w.heap.size B (U8 b)) (hl : a.length ≤ 100000000) :
    Calls Try.prog 11 #[.slice A a.length c, .slice B b.length d] w fun e w' => e = .returned (.bool (sameB a b)) ∧ ∃ n, w' = w.drewN n := by
  by_cases hlen : a.length = b.length
  · have hne : ((a.length : Int) != (b.length : Int)) = false := by simp [hlen]
    have HL := Lib.hid hlen; clear hlen
    go_enter Try.func11, Try.ntmps11
    go_wp2
    go_loopw [5] (fun i wr => ∃ k n : Nat, k ≤ a.length ∧ i = .int .i64 k ∧ a.take k = b.take k ∧ wr = w.drewN n)
      (fun i _ => a.length - (intOf i).toNat)
    case atStart => exact ⟨0, 0, Nat.zero_le _, rfl, rfl, rfl⟩
    case round =>
      obtain ⟨k, n, hk, rfl, htk, rfl⟩ := hrel
      have HT := Lib.hid htk; clear htk
      by_cases hlt : k < a.length
      · have hltb : k < b.length := by have := HL.out; omega
        obtain ⟨b1, o1, rfl, _, hca⟩ := ha.u8 hlt
        obtain ⟨b2, o2, rfl, _, hcb⟩ := hb.u8 hltb
        by_cases hx : a[k] = b[k]
        · have hn : (a[k] != b[k]) = false := by simp [hx]
          have HX := Lib.hid hx; clear hx
          go_wp2
          go_quiet (fail)
          go_wp2
          go_roundw
          case rel => exact ⟨k + 1, _, by omega, by go_num, by rw [take_snoc a k hlt, take_snoc b k hltb, HT.out, HX.out], rfl⟩
          case measure => simp [intOf]; omega
        · have hn : (a[k] != b[k]) = true := by simpa using hx
          have HX := Lib.hid hx; clear hx
          go_wp2
          go_quiet (fail)
          go_wp2
          go_ret
          exact ⟨ret_bool (by symm; simp only [sameB, decide_eq_false_iff_not]; rintro rfl; exact HX.out rfl), n + nq, World.drewN_drewN _ _ _⟩
      · go_wp2
        go_ret
        refine ⟨ret_bool ?_, _, rfl⟩
        have h1 := HT.out
        have h2 := HL.out
        rw [List.take_of_length_le (by omega), List.take_of_length_le (by omega)] at h1
        simp [sameB, h1]
  · have hne : ((a.length : Int) != (b.length : Int)) = true := by simp; omega
    go_enter Try.func11, Try.ntmps11
    go_wp2
    go_ret
    exact ⟨ret_bool (by symm; simp only [sameB, decide_eq_false_iff_not]; rintro rfl; exact hlen rfl), 0, rfl⟩
end Go.Proofs.Ytamfhjjepeggcaa
