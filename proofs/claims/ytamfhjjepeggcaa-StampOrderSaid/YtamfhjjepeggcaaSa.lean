/-
  The contracts of stamp.wrong, stamp.front.
-/
import Derived.Test.YtamfhjjepeggcaaKit
import Derived.Test.YtamfhjjepeggcaaSp
import Derived.Outline
set_option linter.unusedVariables false
namespace Go.Proofs.Ytamfhjjepeggcaa
open Go.RowKit

/-- stamp.wrong's answer. -/
def wrongN (sp : Int) (n : Nat) : Int := if sp < 0 ∨ 255 < sp then 1 else if 200 < n then 3 else 0

set_option maxHeartbeats 400000 in
theorem wrong_any (sp : Int) (A : Option Addr) (n c : Nat) (w : World) :
    Calls Try.prog 22 #[.int .i64 sp, .slice A n c] w fun e w' => e = .returned (.int .i64 (wrongN sp n)) ∧ w = w' := by
  by_cases h1 : sp < 0
  · have e : wrongN sp n = 1 := by simp [wrongN, h1]
    have E := Lib.hid e; clear e
    go_enter Try.func22, Try.ntmps22
    go_wp2
    go_ret
    exact ⟨ret_int E.out.symm, rfl⟩
  · by_cases h2 : 255 < sp
    · have e : wrongN sp n = 1 := by simp [wrongN, h2]
      have E := Lib.hid e; clear e
      go_enter Try.func22, Try.ntmps22
      go_wp2
      go_ret
      exact ⟨ret_int E.out.symm, rfl⟩
    · by_cases h3 : 200 < n
      · have e : wrongN sp n = 3 := by simp [wrongN, h1, h2, h3]
        have E := Lib.hid e; clear e
        go_enter Try.func22, Try.ntmps22
        go_wp2
        go_ret
        exact ⟨ret_int E.out.symm, rfl⟩
      · have e : wrongN sp n = 0 := by simp [wrongN, h1, h2, h3]
        have E := Lib.hid e; clear e
        go_enter Try.func22, Try.ntmps22
        go_wp2
        go_ret
        exact ⟨ret_int E.out.symm, rfl⟩

set_option maxHeartbeats 1000000 in
theorem front_any (sp : Int) (A : Option Addr) (l : List Int) (c : Nat) (mark : Int) (w : World) (h0 : 0 ≤ sp) (h1 : sp ≤ 255) (hl : l.length ≤ 1000000) (hc : Cells w w.heap.size A (U8 l)) (ho : Oct l) :
    Calls Try.prog 24 #[.int .i64 sp, .slice A l.length c, .int .u8 mark] w fun e w' => ∃ v, e = .returned v ∧ Own w' w.heap.size v (frontL sp l mark) ∧ Below w.heap.size w w' := by
  go_enter Try.func24, Try.ntmps24
  go_wp2
  go_loopw [7, 15] (fun v i wr => ∃ k : Nat, k ≤ l.length ∧ i = .int .i64 k ∧ Own wr w.heap.size v (sp :: esc (l.take k)) ∧ Below w.heap.size w wr)
    (fun _ i _ => l.length - (intOf i).toNat)
  case atStart => exact ⟨0, Nat.zero_le _, rfl, own_lit _ _ _ (Nat.le_refl _), (Below.refl _ _).alloc (Nat.le_refl _) _⟩
  case round =>
    obtain ⟨k, hk, rfl, hown, hb⟩ := hrel
    have hsz := hb.size
    have hlen := esc_take_len l k
    by_cases hlt : k < l.length
    · obtain ⟨b0, off, rfl, hB, hcell⟩ := (hc.below hb).u8 hlt
      have hoct := ho.at_ (List.getElem?_eq_getElem hlt)
      by_cases hz : l[k] = 0
      · have hz' := esc_zero l k hlt hz
        have H := Lib.hid hz'; clear hz'
        rw [hz] at hcell
        clear hz hoct
        go_wp2_with (first | (at_builtin; refine app_one rfl (.tmp 19) (.tmp 21) rfl w.heap.size _ _ _ rfl hown rfl (by simp; omega) hsz ?_; intro v1 w1 hown1 hg1) | (at_builtin; refine app_one rfl (.tmp 25) (.tmp 26) rfl w.heap.size _ _ _ rfl hown1 rfl (by simp; omega) (by have := hg1.by_.size; omega) ?_; intro v2 w2 hown2 hg2))
        go_roundw
        case rel => exact ⟨k + 1, by omega, by go_num, by rw [H.out]; exact own_as hown2 (by simp), (hb.trans (hg1.below hown hsz)).trans (hg2.below hown1 (by have := hg1.by_.size; omega))⟩
        case measure => simp [intOf]; omega
      · have hz' := esc_other l k hlt hz
        have H := Lib.hid hz'; clear hz'
        have hne : (l[k] == 0) = false := by simpa using hz
        go_wp2_with (first | (at_builtin; refine app_one rfl (.tmp 19) (.tmp 21) rfl w.heap.size _ _ _ rfl hown rfl (by simp; omega) hsz ?_; intro v1 w1 hown1 hg1))
        go_roundw
        case rel => exact ⟨k + 1, by omega, by go_num, by rw [H.out]; exact own_as hown1 (by simp), hb.trans (hg1.below hown hsz)⟩
        case measure => simp [intOf]; omega
    · have ht : l.take k = l := List.take_of_length_le (by omega)
      rw [ht] at hown hlen
      clear ht
      go_wp2_with (first | (at_builtin; refine app_two rfl (.tmp 29) (.tmp 31) rfl w.heap.size _ _ _ _ rfl hown rfl (by simp; omega) hsz ?_; intro v1 w1 hown1 hg1))
      go_ret
      exact ⟨v1, rfl, own_as hown1 (by simp [frontL]), hb.trans (hg1.below hown hsz)⟩

set_option maxHeartbeats 1000000 in
theorem append64_any (v : Value) (l : List Int) (x : Int) (w : World) (base : Nat) (h0 : 0 ≤ x) (h1 : x ≤ 18446744073709551615) (hl : l.length ≤ 10000000) (hown : Own w base v l) (hbase : base ≤ w.heap.size) :
    Calls Try.prog 23 #[v, .int .u64 x] w fun e w' => ∃ v', e = .returned v' ∧ Own w' base v' (l ++ be64 x) ∧ Grew w v w' v' := by
  go_enter Try.func23, Try.ntmps23
  go_wp2
  go_loopw [0, 5] (fun u i wr => ∃ j : Nat, j ≤ 8 ∧ i = .int .i64 (56 - 8 * (j : Int)) ∧ Own wr base u (l ++ (be64 x).take j) ∧ Grew w v wr u)
    (fun _ i _ => (intOf i + 8).toNat)
  case atStart => exact ⟨0, Nat.zero_le _, rfl, by simpa using hown, Grew.refl _ _⟩
  case round =>
    obtain ⟨j, hj, rfl, hown, hg⟩ := hrel
    have hsz := hg.by_.size
    by_cases hlt : j < 8
    · have hcases : j = 0 ∨ j = 1 ∨ j = 2 ∨ j = 3 ∨ j = 4 ∨ j = 5 ∨ j = 6 ∨ j = 7 := by omega
      obtain ⟨q, hq⟩ : ∃ q : Nat, q = j + 1 := ⟨_, rfl⟩
      have HQ := Lib.hid hq; clear hq
      rcases hcases with rfl | rfl | rfl | rfl | rfl | rfl | rfl | rfl
      all_goals
        go_wp2_with (first | (at_builtin; refine app_one rfl (.tmp 10) (.tmp 16) rfl base _ _ _ rfl hown rfl (by simp; omega) (by omega) ?_; intro v1 w1 hown1 hg1))
        go_roundw
        case rel => exact ⟨q, by have := HQ.out; omega, by rw [HQ.out]; rfl, own_as hown1 (by rw [HQ.out]; simp [be64]; try omega), hg.trans hg1⟩
        case measure => decide
    · have hj8 : j = 8 := by omega
      subst hj8
      go_wp2
      go_ret
      exact ⟨_, rfl, own_as hown (by simp [be64]), hg⟩
end Go.Proofs.Ytamfhjjepeggcaa
