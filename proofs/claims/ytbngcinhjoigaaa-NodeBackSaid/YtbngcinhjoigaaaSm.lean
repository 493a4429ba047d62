/-
  The contract of munimentref04.Same.
-/
import Derived.Test.YtbngcinhjoigaaaKb
import Derived.Deep.QuietTactic
import Derived.BigQuiet
set_option linter.unusedVariables false
namespace Go.Proofs.Ytbngcinhjoigaaa
open Go.RowKit

theorem take_snoc {α : Type} (l : List α) (k : Nat) (h : k < l.length) : l.take (k + 1) = l.take k ++ [l[k]] := by
  rw [List.take_succ_eq_append_getElem h]

/-- Are two rows alike? -/
def sameB (a b : List Int) : Bool := decide (a = b)

set_option maxHeartbeats 1000000 in
theorem same_any (A B : Option Addr) (a b : List Int) (c d : Nat) (w : World) (ha : Cells w w.heap.size A (U8 a)) (hb : Cells w w.heap.size B (U8 b)) (hl : a.length ≤ 100000000) :
    Calls Try.prog 14 #[.slice A a.length c, .slice B b.length d] w fun e w' => e = .returned (.bool (sameB a b)) ∧ ∃ n, w' = w.drewN n := by
  by_cases hlen : a.length = b.length
  · have hne : ((a.length : Int) != (b.length : Int)) = false := by simp [hlen]
    have HL := Lib.hid hlen; clear hlen
    go_enter Try.func14, Try.ntmps14
    go_wp2
    go_loopw [5] (fun i wr => ∃ k n : Nat, k ≤ a.length ∧ i = .int .i64 k ∧ a.take k = b.take k ∧ wr = w.drewN n)
      (fun i _ => a.length - (intOf i).toNat)
    case atStart => exact ⟨0, 0, Nat.zero_le _, rfl, rfl, rfl⟩
    case round =>
      obtain ⟨k, n, hk, rfl, htk, rfl⟩ := hrel
      have HT := Lib.hid htk; clear htk
      by_cases hlt : k < a.length
      · have hltb : k < b.length := by have := HL.out; omega
        obtain ⟨b1, o1, rfl, _, hca⟩ := ha.u8 hlt
        obtain ⟨b2, o2, rfl, _, hcb⟩ := hb.u8 hltb
        by_cases hx : a[k] = b[k]
        · have hn : (a[k] != b[k]) = false := by simp [hx]
          have HX := Lib.hid hx; clear hx
          go_wp2
          go_quiet (fail)
          go_wp2
          go_roundw
          case rel => exact ⟨k + 1, _, by omega, by go_num, by rw [take_snoc a k hlt, take_snoc b k hltb, HT.out, HX.out], rfl⟩
          case measure => simp [intOf]; omega
        · have hn : (a[k] != b[k]) = true := by simpa using hx
          have HX := Lib.hid hx; clear hx
          go_wp2
          go_quiet (fail)
          go_wp2
          go_ret
          exact ⟨ret_bool (by symm; simp only [sameB, decide_eq_false_iff_not]; rintro rfl; exact HX.out rfl), n + nq, World.drewN_drewN _ _ _⟩
      · go_wp2
        go_ret
        refine ⟨ret_bool ?_, _, rfl⟩
        have h1 := HT.out
        have h2 := HL.out
        rw [List.take_of_length_le (by omega), List.take_of_length_le (by omega)] at h1
        simp [sameB, h1]
  · have hne : ((a.length : Int) != (b.length : Int)) = true := by simp; omega
    go_enter Try.func14, Try.ntmps14
    go_wp2
    go_ret
    exact ⟨ret_bool (by symm; simp only [sameB, decide_eq_false_iff_not]; rintro rfl; exact hlen rfl), 0, rfl⟩
theorem same_b (A B : Option Addr) (a b : List Int) (c d : Nat) (w : World) (ha : Cells w w.heap.size A (U8 a)) (hb : Cells w w.heap.size B (U8 b)) (hl : a.length ≤ 100000000) :
    Calls Try.prog 14 #[.slice A a.length c, .slice B b.length d] w fun e w' => e = .returned (.bool (sameB a b)) ∧ Below w.heap.size w w' :=
  (same_any A B a b c d w ha hb hl).mono fun _ _ ⟨h, n, e⟩ => ⟨h, e ▸ below_drewN (Below.refl _ _) n⟩
end Go.Proofs.Ytbngcinhjoigaaa
