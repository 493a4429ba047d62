/-
  The contracts of munimentref05.front, munimentref04.Big.
-/
import Derived.Test.YtamfhjjepeggcaaKit
import Derived.Test.YtamfhjjepeggcaaSp
import Derived.Outline
set_option linter.unusedVariables false
namespace Go.Proofs.Ytamfhjjepeggcaa
open Go.RowKit

set_option maxHeartbeats 1000000 in
theorem rfront_any (sp : Int) (A : Option Addr) (l : List Int) (c : Nat) (mark : Int) (w : World) (h0 : 0 ≤ sp) (h1 : sp ≤ 255) (hl : l.length ≤ 1000000) (hc : Cells w w.heap.size A (U8 l)) (ho : Oct l) :
    Calls Try.prog 25 #[.int .i64 sp, .slice A l.length c, .int .u8 mark] w fun e w' => ∃ v, e = .returned v ∧ Own w' w.heap.size v (frontL sp l mark) ∧ Below w.heap.size w w' := by
  go_enter Try.func25, Try.ntmps25
  go_wp2
  go_loopw [7, 8] (fun v i wr => ∃ k : Nat, k ≤ l.length ∧ i = .int .i64 k ∧ Own wr w.heap.size v (sp :: esc (l.take k)) ∧ Below w.heap.size w wr)
    (fun _ i _ => l.length - (intOf i).toNat)
  case atStart => exact ⟨0, Nat.zero_le _, rfl, own_lit _ _ _ (Nat.le_refl _), (Below.refl _ _).alloc (Nat.le_refl _) _⟩
  case round =>
    obtain ⟨k, hk, rfl, hown, hb⟩ := hrel
    have hsz := hb.size
    have hlen := esc_take_len l k
    by_cases hlt : k < l.length
    · obtain ⟨b0, off, rfl, hB, hcell⟩ := (hc.below hb).u8 hlt
      have hoct := ho.at_ (List.getElem?_eq_getElem hlt)
      by_cases hz : l[k] = 0
      · have hz' := esc_zero l k hlt hz
        have H := Lib.hid hz'; clear hz'
        rw [hz] at hcell
        clear hz hoct
        go_wp2_with (first | (at_builtin; refine app_one rfl (.tmp 18) (.tmp 23) rfl w.heap.size _ _ _ rfl hown rfl (by simp; omega) hsz ?_; intro v1 w1 hown1 hg1; have hcell1 := (((hg1.below hown hsz).cell (p := ⟨b0, off + k, none⟩) hB).trans hcell)) | (at_builtin; refine app_one rfl (.tmp 30) (.tmp 31) rfl w.heap.size _ _ _ rfl hown1 rfl (by simp; omega) (by have := hg1.by_.size; omega) ?_; intro v2 w2 hown2 hg2))
        go_roundw
        case rel => exact ⟨k + 1, by omega, by go_num, by rw [H.out]; exact own_as hown2 (by simp), (hb.trans (hg1.below hown hsz)).trans (hg2.below hown1 (by have := hg1.by_.size; omega))⟩
        case measure => simp [intOf]; omega
      · have hz' := esc_other l k hlt hz
        have H := Lib.hid hz'; clear hz'
        have hne : (l[k] == 0) = false := by simpa using hz
        go_wp2_with (first | (at_builtin; refine app_one rfl (.tmp 18) (.tmp 23) rfl w.heap.size _ _ _ rfl hown rfl (by simp; omega) hsz ?_; intro v1 w1 hown1 hg1; have hcell1 := (((hg1.below hown hsz).cell (p := ⟨b0, off + k, none⟩) hB).trans hcell)))
        go_roundw
        case rel => exact ⟨k + 1, by omega, by go_num, by rw [H.out]; exact own_as hown1 (by simp), hb.trans (hg1.below hown hsz)⟩
        case measure => simp [intOf]; omega
    · have ht : l.take k = l := List.take_of_length_le (by omega)
      rw [ht] at hown hlen
      clear ht
      go_wp2_with (first | (at_builtin; refine app_one rfl (.tmp 33) (.tmp 34) rfl w.heap.size _ _ _ rfl hown rfl (by simp; omega) hsz ?_; intro v1 w1 hown1 hg1) | (at_builtin; refine app_one rfl (.tmp 36) (.tmp 38) rfl w.heap.size _ _ _ rfl hown1 rfl (by simp; omega) (by have := hg1.by_.size; omega) ?_; intro v2 w2 hown2 hg2))
      go_ret
      exact ⟨v2, rfl, own_as hown2 (by simp [frontL]), (hb.trans (hg1.below hown hsz)).trans (hg2.below hown1 (by have := hg1.by_.size; omega))⟩

set_option maxHeartbeats 2000000 in
theorem big_any (x : Int) (w : World) (h0 : 0 ≤ x) (h1 : x ≤ 18446744073709551615) :
    Calls Try.prog 26 #[.int .u64 x] w fun e w' => e = .returned (.slice (some ⟨w.heap.size, 0, none⟩) 8 8) ∧ w' = w.alloc (.cells (U8 (be64 x)).toArray 5) := by
  have hmk : ∀ w, (Instr.makeSlice 22 (.int .i64 8) (.int .i64 8)).run Try.prog w = .ok (.slice (some ⟨w.heap.size, 0, none⟩) 8 8) (w.alloc (.cells #[.int .u8 0, .int .u8 0, .int .u8 0, .int .u8 0, .int .u8 0, .int .u8 0, .int .u8 0, .int .u8 0] 5)) := fun _ => by kernel_rfl
  have hbe : (U8 (be64 x)).toArray = #[Value.int IntKind.u8 (x / 256 / 256 / 256 / 256 / 256 / 256 / 256 % 256), Value.int IntKind.u8 (x / 256 / 256 / 256 / 256 / 256 / 256 % 256), Value.int IntKind.u8 (x / 256 / 256 / 256 / 256 / 256 % 256), Value.int IntKind.u8 (x / 256 / 256 / 256 / 256 % 256), Value.int IntKind.u8 (x / 256 / 256 / 256 % 256), Value.int IntKind.u8 (x / 256 / 256 % 256), Value.int IntKind.u8 (x / 256 % 256), Value.int IntKind.u8 (x % 256)] := by
    have e7 : x / 72057594037927936 = x / 256 / 256 / 256 / 256 / 256 / 256 / 256 := by omega
    have e6 : x / 281474976710656 = x / 256 / 256 / 256 / 256 / 256 / 256 := by omega
    have e5 : x / 1099511627776 = x / 256 / 256 / 256 / 256 / 256 := by omega
    have e4 : x / 4294967296 = x / 256 / 256 / 256 / 256 := by omega
    have e3 : x / 16777216 = x / 256 / 256 / 256 := by omega
    have e2 : x / 65536 = x / 256 / 256 := by omega
    simp only [be64, U8, List.map_cons, List.map_nil, e7, e6, e5, e4, e3, e2]
  have H := Lib.hid hbe; clear hbe
  go_enter Try.func26, Try.ntmps26
  go_wp2
  refine wp_loop_rounds 9 ?_
  iterate 9 (rw [rounds_succ]; go_wp2)
  go_ret
  exact ⟨rfl, by rw [H.out]⟩
end Go.Proofs.Ytamfhjjepeggcaa
