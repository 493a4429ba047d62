/-
  The contracts of munimentref04.Less; First and Behind, the program's and the reference's.
-/
import Derived.Test.YtamfhjjepeggcaaRb
import Derived.Test.YtamfhjjepeggcaaLp
set_option linter.unusedVariables false
namespace Go.Proofs.Ytamfhjjepeggcaa
open Go.RowKit

set_option maxHeartbeats 1000000 in
theorem less_any (A B : Option Addr) (a b : List Int) (c d : Nat) (w : World) (ha : Cells w w.heap.size A (U8 a)) (hb : Cells w w.heap.size B (U8 b)) (hl : a.length ≤ 100000000) (hm : b.length ≤ 100000000) (hoa : Oct a) (hob : Oct b) :
    Calls Try.prog 16 #[.slice A a.length c, .slice B b.length d] w fun e w' => e = .returned (.bool (lessB a b)) ∧ ∃ n, w' = w.drewN n := by
  go_enter Try.func16, Try.ntmps16
  go_wp2
  go_loopw [5] (fun i wr => ∃ k n : Nat, k ≤ a.length ∧ k ≤ b.length ∧ i = .int .i64 k ∧ a.take k = b.take k ∧ wr = w.drewN n)
    (fun i _ => a.length - (intOf i).toNat)
  case atStart => exact ⟨0, 0, Nat.zero_le _, Nat.zero_le _, rfl, rfl, rfl⟩
  case round =>
    obtain ⟨k, n, hk, hk2, rfl, htk, rfl⟩ := hrel
    have HT := Lib.hid htk; clear htk
    by_cases hlt : k < a.length
    · by_cases hltb : k < b.length
      · obtain ⟨b1, o1, rfl, _, hca⟩ := ha.u8 hlt
        obtain ⟨b2, o2, rfl, _, hcb⟩ := hb.u8 hltb
        have ob1 := hoa.at_ (List.getElem?_eq_getElem hlt)
        have ob2 := hob.at_ (List.getElem?_eq_getElem hltb)
        by_cases hx : a[k] = b[k]
        · have hn : (a[k] != b[k]) = false := by simp [hx]
          have HX := Lib.hid hx; clear hx
          go_wp2
          go_quiet (fail)
          go_wp2
          go_roundw
          case rel => exact ⟨k + 1, _, by omega, by omega, by go_num, by rw [take_snoc a k hlt, take_snoc b k hltb, HT.out, HX.out], rfl⟩
          case measure => simp [intOf]; omega
        · have hn : (a[k] != b[k]) = true := by simpa using hx
          have HX := Lib.hid hx; clear hx
          go_wp2
          go_quiet (fail)
          go_wp2
          go_quiet (fail)
          go_wp2
          go_ret
          exact ⟨ret_bool (lessB_at HT.out hlt hltb HX.out).symm, _, by rw [World.drewN_drewN, World.drewN_drewN]⟩
      · have HF := Lib.hid (lessB_end HT.out hk hk2 (by omega))
        go_wp2
        go_ret
        exact ⟨ret_bool (by rw [HF.out]), _, rfl⟩
    · have HF := Lib.hid (lessB_end HT.out hk hk2 (by omega))
      go_wp2
      go_ret
      exact ⟨ret_bool (by rw [HF.out]), _, rfl⟩

theorem same_b (A B : Option Addr) (a b : List Int) (c d : Nat) (w : World) (ha : Cells w w.heap.size A (U8 a)) (hb : Cells w w.heap.size B (U8 b)) (hl : a.length ≤ 100000000) :
    Calls Try.prog 11 #[.slice A a.length c, .slice B b.length d] w fun e w' => e = .returned (.bool (sameB a b)) ∧ Below w.heap.size w w' :=
  (same_any A B a b c d w ha hb hl).mono fun _ _ ⟨h, n, e⟩ => ⟨h, e ▸ below_drewN (Below.refl _ _) n⟩
theorem less_b (A B : Option Addr) (a b : List Int) (c d : Nat) (w : World) (ha : Cells w w.heap.size A (U8 a)) (hb : Cells w w.heap.size B (U8 b)) (hl : a.length ≤ 100000000) (hm : b.length ≤ 100000000) (hoa : Oct a) (hob : Oct b) :
    Calls Try.prog 16 #[.slice A a.length c, .slice B b.length d] w fun e w' => e = .returned (.bool (lessB a b)) ∧ Below w.heap.size w w' :=
  (less_any A B a b c d w ha hb hl hm hoa hob).mono fun _ _ ⟨h, n, e⟩ => ⟨h, e ▸ below_drewN (Below.refl _ _) n⟩

/-- First and Behind: what stands ahead of the times, or nothing. -/
def spanL (sp : Int) (l : List Int) (m : Int) : List Int := if wrongN sp l.length = 0 then frontL sp l m else []

theorem own_nil {w : World} {base : Nat} {sp : Int} {l : List Int} {m : Int} (h : wrongN sp l.length ≠ 0) : Own w base (.slice none 0 0) (spanL sp l m) := by
  rw [spanL, if_neg h]; exact Own.nil _ _

set_option maxHeartbeats 1000000 in
theorem first_any (sp : Int) (A : Option Addr) (l : List Int) (c : Nat) (w : World) (hc : Cells w w.heap.size A (U8 l)) (ho : Oct l) :
    Calls Try.prog 12 #[.int .i64 sp, .slice A l.length c] w fun e w' => ∃ v, e = .returned v ∧ Own w' w.heap.size v (spanL sp l 0) ∧ Below w.heap.size w w' := by
  by_cases hz : wrongN sp l.length = 0
  · obtain ⟨h0, h1, h2⟩ := wrongN_ok hz
    have hb : (wrongN sp l.length != 0) = false := by simpa using hz
    have HZ := Lib.hid hz; clear hz
    go_enter Try.func12, Try.ntmps12
    go_wp2_with (first | (go_at_call 22; refine (wrong_any _ _ _ _ _).mono ?_; rintro e w' ⟨rfl, rfl⟩) | (go_at_call 24; refine (front_any sp A l c 0 _ h0 h1 (by omega) hc ho).mono ?_; rintro e w1 ⟨v1, rfl, hown1, hb1⟩))
    go_ret
    exact ⟨v1, rfl, by rw [spanL, if_pos HZ.out]; exact hown1, hb1⟩
  · have hb : (wrongN sp l.length != 0) = true := by simpa using hz
    go_enter Try.func12, Try.ntmps12
    go_wp2_with (first | (go_at_call 22; refine (wrong_any _ _ _ _ _).mono ?_; rintro e w' ⟨rfl, rfl⟩))
    go_ret
    exact ⟨_, rfl, own_nil hz, Below.refl _ _⟩

set_option maxHeartbeats 1000000 in
theorem behind_any (sp : Int) (A : Option Addr) (l : List Int) (c : Nat) (w : World) (hc : Cells w w.heap.size A (U8 l)) (ho : Oct l) :
    Calls Try.prog 13 #[.int .i64 sp, .slice A l.length c] w fun e w' => ∃ v, e = .returned v ∧ Own w' w.heap.size v (spanL sp l 1) ∧ Below w.heap.size w w' := by
  by_cases hz : wrongN sp l.length = 0
  · obtain ⟨h0, h1, h2⟩ := wrongN_ok hz
    have hb : (wrongN sp l.length != 0) = false := by simpa using hz
    have HZ := Lib.hid hz; clear hz
    go_enter Try.func13, Try.ntmps13
    go_wp2_with (first | (go_at_call 22; refine (wrong_any _ _ _ _ _).mono ?_; rintro e w' ⟨rfl, rfl⟩) | (go_at_call 24; refine (front_any sp A l c 1 _ h0 h1 (by omega) hc ho).mono ?_; rintro e w1 ⟨v1, rfl, hown1, hb1⟩))
    go_ret
    exact ⟨v1, rfl, by rw [spanL, if_pos HZ.out]; exact hown1, hb1⟩
  · have hb : (wrongN sp l.length != 0) = true := by simpa using hz
    go_enter Try.func13, Try.ntmps13
    go_wp2_with (first | (go_at_call 22; refine (wrong_any _ _ _ _ _).mono ?_; rintro e w' ⟨rfl, rfl⟩))
    go_ret
    exact ⟨_, rfl, own_nil hz, Below.refl _ _⟩

set_option maxHeartbeats 1000000 in
theorem rfirst_any (sp : Int) (A : Option Addr) (l : List Int) (c : Nat) (w : World) (hc : Cells w w.heap.size A (U8 l)) (ho : Oct l) :
    Calls Try.prog 14 #[.int .i64 sp, .slice A l.length c] w fun e w' => ∃ v, e = .returned v ∧ Own w' w.heap.size v (spanL sp l 0) ∧ Below w.heap.size w w' := by
  by_cases hz : wrongN sp l.length = 0
  · obtain ⟨h0, h1, h2⟩ := wrongN_ok hz
    have HZ := Lib.hid hz; clear hz
    go_enter Try.func14, Try.ntmps14
    go_wp2_with fail
    refine (rwrite_ok sp A l c 0 _ HZ.out hc ho (by decide) (by decide)).mono ?_
    rintro e w1 ⟨v1, rfl, _, hb1⟩
    have hs1 := hb1.size
    go_wp2_with fail
    refine (rfront_any sp A l c 0 _ h0 h1 (by omega) ((hc.below hb1).more hs1) ho).mono ?_
    rintro e w2 ⟨v2, rfl, hown2, hb2⟩
    go_wp2
    go_ret
    exact ⟨v2, rfl, by rw [spanL, if_pos HZ.out]; exact hown2.mono hs1, hb1.trans (hb2.mono hs1)⟩
  · have hb : (wrongN sp l.length != 0) = true := by simpa using hz
    go_enter Try.func14, Try.ntmps14
    go_wp2_with fail
    refine (rwrite_no sp A l c 0 _ hz).mono ?_
    rintro e w1 ⟨rfl, hb1⟩
    go_wp2
    go_ret
    exact ⟨_, rfl, own_nil hz, hb1⟩

set_option maxHeartbeats 1000000 in
theorem rbehind_any (sp : Int) (A : Option Addr) (l : List Int) (c : Nat) (w : World) (hc : Cells w w.heap.size A (U8 l)) (ho : Oct l) :
    Calls Try.prog 15 #[.int .i64 sp, .slice A l.length c] w fun e w' => ∃ v, e = .returned v ∧ Own w' w.heap.size v (spanL sp l 1) ∧ Below w.heap.size w w' := by
  by_cases hz : wrongN sp l.length = 0
  · obtain ⟨h0, h1, h2⟩ := wrongN_ok hz
    have HZ := Lib.hid hz; clear hz
    go_enter Try.func15, Try.ntmps15
    go_wp2_with fail
    refine (rwrite_ok sp A l c 0 _ HZ.out hc ho (by decide) (by decide)).mono ?_
    rintro e w1 ⟨v1, rfl, _, hb1⟩
    have hs1 := hb1.size
    go_wp2_with fail
    refine (rfront_any sp A l c 1 _ h0 h1 (by omega) ((hc.below hb1).more hs1) ho).mono ?_
    rintro e w2 ⟨v2, rfl, hown2, hb2⟩
    go_wp2
    go_ret
    exact ⟨v2, rfl, by rw [spanL, if_pos HZ.out]; exact hown2.mono hs1, hb1.trans (hb2.mono hs1)⟩
  · have hb : (wrongN sp l.length != 0) = true := by simpa using hz
    go_enter Try.func15, Try.ntmps15
    go_wp2_with fail
    refine (rwrite_no sp A l c 0 _ hz).mono ?_
    rintro e w1 ⟨rfl, hb1⟩
    go_wp2
    go_ret
    exact ⟨_, rfl, own_nil hz, hb1⟩
end Go.Proofs.Ytamfhjjepeggcaa
