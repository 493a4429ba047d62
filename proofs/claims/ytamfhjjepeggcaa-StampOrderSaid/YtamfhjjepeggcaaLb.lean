/-
  The walk of StampSpans.
-/
import Derived.Test.YtamfhjjepeggcaaSc
import Derived.Test.YtamfhjjepeggcaaLa
set_option linter.unusedVariables false
namespace Go.Proofs.Ytamfhjjepeggcaa
open Go.RowKit

theorem oct_front {sp : Int} {l : List Int} {m : Int} (h0 : 0 ≤ sp) (h1 : sp ≤ 255) (hl : Oct l) (hm : 0 ≤ m) (hm' : m ≤ 255) : Oct (frontL sp l m) := by
  refine Oct.cons h0 h1 (Oct.app ?_ (Oct.cons (by decide) (by decide) (Oct.cons hm hm' Oct.nil)))
  induction l with
  | nil => exact Oct.nil
  | cons c r ih =>
    have hc := hl c (by simp)
    have ih' := ih (fun x hx => hl x (by simp [hx]))
    unfold esc
    split
    · exact Oct.cons (by decide) (by decide) (Oct.cons (by decide) (by decide) ih')
    · exact Oct.cons hc.1 hc.2 ih'
theorem oct_be64 (x : Int) : Oct (be64 x) := by
  intro y hy
  simp only [be64, List.mem_cons, List.not_mem_nil, or_false] at hy
  omega
theorem oct_write {sp : Int} {l : List Int} {t : Int} (h0 : 0 ≤ sp) (h1 : sp ≤ 255) (hl : Oct l) : Oct (writeL sp l t) :=
  Oct.app (oct_front h0 h1 hl (by decide) (by decide)) (oct_be64 _)
theorem oct_span {sp : Int} {l : List Int} {m : Int} (hl : Oct l) (hm : 0 ≤ m) (hm' : m ≤ 255) : Oct (spanL sp l m) := by
  unfold spanL
  split
  · rename_i h
    have := wrongN_ok h
    exact oct_front this.1 this.2.1 hl hm hm'
  · exact Oct.nil
theorem spanL_len (sp : Int) (l : List Int) (m : Int) (h : l.length ≤ 1000) : (spanL sp l m).length ≤ 2003 := by
  unfold spanL
  have := esc_len l
  split
  · rw [frontL_len]; omega
  · simp

theorem span_in (sp : Int) (n : List Int) (t : Int) (ho : Oct n) : lessB (writeL sp n t) (frontL sp n 0) = false ∧ lessB (writeL sp n t) (frontL sp n 1) = true := by
  have h := (esc_span n n (be64 (18446744073709551615 - t)) ho ho (by simp [be64])).1 rfl
  simpa [writeL, frontL, lessB] using h
theorem span_out (sp sp' : Int) (n n' : List Int) (t : Int) (ho : Oct n) (ho' : Oct n') (hne : ¬ (sp' = sp ∧ n' = n)) : lessB (writeL sp' n' t) (frontL sp n 0) = lessB (writeL sp' n' t) (frontL sp n 1) := by
  by_cases h : sp' = sp
  · subst h
    have h := (esc_span n' n (be64 (18446744073709551615 - t)) ho' ho (by simp [be64])).2 (fun e => hne ⟨rfl, e⟩)
    simpa [writeL, frontL, lessB] using h
  · simp [writeL, frontL, lessB, h]

set_option maxHeartbeats 4000000 in
theorem spans_walk (s : Int) (B : Option Addr) (n : List Int) (d : Nat) (sp : Int) (A : Option Addr) (l : List Int) (c : Nat) (t : Int) (w : World) (hs0 : -9223372036854775808 ≤ s) (hs0' : s ≤ 9223372036854775807) (hcn : Cells w w.heap.size B (U8 n)) (hon : Oct n) (hnd : n.length ≤ d ∧ d ≤ 9223372036854775807)
    (hc : Cells w w.heap.size A (U8 l)) (ho : Oct l) (hl : l.length ≤ 9223372036854775807) (ht0 : 0 ≤ t) (ht1 : t ≤ 18446744073709551615) :
    Calls Try.prog 4 #[.int .i64 s, .slice B n.length d, .agg #[.int .i64 sp, .slice A l.length c, .int .u64 t]] w fun e w' => e = .returned (.bool true) ∧ Below w.heap.size w w' := by
  have hn : n.length ≤ 9223372036854775807 := by omega
  have hT := Three.new w (.int .i64 sp) (.slice A l.length c) (.int .u64 t) 25
  by_cases h1 : 1000 < n.length
  · go_enter Try.func4, Try.ntmps4
    go_wp2_with fail
    refine (awake_any _).mono ?_
    rintro e w1 ⟨rfl, hb1⟩
    obtain ⟨q0, q1, q2⟩ := hT.below hb1 (by simp)
    go_wp2_with fail
    refine (awake_any _).mono ?_
    rintro e w2 ⟨rfl, hb2⟩
    go_wp2
    go_ret
    exact ⟨rfl, (((Below.refl _ _).alloc (Nat.le_refl _) _).trans (hb1.mono (by simp))).trans (hb2.mono (by have := hb1.size; simp at this; omega))⟩
  by_cases h2 : 1000 < l.length
  · go_enter Try.func4, Try.ntmps4
    go_wp2_with fail
    refine (awake_any _).mono ?_
    rintro e w1 ⟨rfl, hb1⟩
    obtain ⟨q0, q1, q2⟩ := hT.below hb1 (by simp)
    go_wp2_with fail
    refine (awake_any _).mono ?_
    rintro e w2 ⟨rfl, hb2⟩
    go_wp2
    go_ret
    exact ⟨rfl, (((Below.refl _ _).alloc (Nat.le_refl _) _).trans (hb1.mono (by simp))).trans (hb2.mono (by have := hb1.size; simp at this; omega))⟩
  have hl' : l.length ≤ 1000 := by omega
  have hn' : n.length ≤ 1000 := by omega
  have hL0 := spanL_len s n 0 hn'
  have hL1 := spanL_len s n 1 hn'
  go_enter Try.func4, Try.ntmps4
  go_wp2_with fail
  refine (awake_any _).mono ?_
  rintro e w1 ⟨rfl, hb1⟩
  obtain ⟨q0, q1, q2⟩ := hT.below hb1 (by simp)
  have hs1 : w.heap.size + 1 ≤ w1.heap.size := by have := hb1.size; simpa using this
  have hB1 : Below w.heap.size w w1 := ((Below.refl _ _).alloc (Nat.le_refl _) _).trans (hb1.mono (by simp))
  go_wp2_with fail
  refine (first_any s B n d _ ((hcn.below hB1).more (by omega)) hon).mono ?_
  rintro e w2 ⟨v2, rfl, hown2, hb2⟩
  obtain ⟨q0, q1, q2⟩ := Three.below ⟨q0, q1, q2⟩ hb2 (by omega)
  have hs2 := hb2.size
  have hB2 := hB1.trans (hb2.mono (by omega))
  obtain ⟨A2, c2, e2, _, _, hcell2⟩ := hown2.shape
  rw [e2]
  clear e2
  go_wp2_with fail
  refine (behind_any s B n d _ ((hcn.below hB2).more (by omega)) hon).mono ?_
  rintro e w3 ⟨v3, rfl, hown3, hb3⟩
  obtain ⟨q0, q1, q2⟩ := Three.below ⟨q0, q1, q2⟩ hb3 (by omega)
  have hs3 := hb3.size
  have hB3 := hB2.trans (hb3.mono (by omega))
  have hcell2 := hcell2.below hb3
  obtain ⟨A3, c3, e3, _, _, hcell3⟩ := hown3.shape
  rw [e3]
  clear e3
  go_wp2_with fail
  refine (rfirst_any s B n d _ ((hcn.below hB3).more (by omega)) hon).mono ?_
  rintro e w4 ⟨v4, rfl, hown4, hb4⟩
  obtain ⟨q0, q1, q2⟩ := Three.below ⟨q0, q1, q2⟩ hb4 (by omega)
  have hs4 := hb4.size
  have hB4 := hB3.trans (hb4.mono (by omega))
  have hcell2 := hcell2.below (hb4.mono (by omega))
  have hcell3 := hcell3.below hb4
  obtain ⟨A4, c4, e4, _, _, hcell4⟩ := hown4.shape
  rw [e4]
  clear e4
  go_wp2_with fail
  refine (same_any A2 A4 _ _ c2 c4 _ (hcell2.more (by omega)) hcell4 (by omega)).mono ?_
  rintro e w5 ⟨rfl, n5, rfl⟩
  have hS : sameB (spanL s n 0) (spanL s n 0) = true := by simp [sameB]
  rw [hS]
  go_wp2_with fail
  refine (rbehind_any s B n d _ (((hcn.below hB4).drewN n5).more (by show _ ≤ w4.heap.size; omega)) hon).mono ?_
  rintro e w6 ⟨v6, rfl, hown6, hb6⟩
  have hb6 : Below w4.heap.size w4 w6 := (below_drewN (Below.refl _ _) n5).trans hb6
  obtain ⟨q0, q1, q2⟩ := Three.below (w := w4) ⟨q0, q1, q2⟩ hb6 (by omega)
  have hs6 := hb6.size
  have hB6 := hB4.trans (hb6.mono (by omega))
  have hcell2 := hcell2.below (hb6.mono (by omega))
  have hcell3 := hcell3.below (hb6.mono (by omega))
  obtain ⟨A6, c6, e6, _, _, hcell6⟩ := hown6.shape
  rw [e6]
  clear e6
  go_wp2_with fail
  refine (same_any A3 A6 _ _ c3 c6 _ (hcell3.more (by omega)) hcell6 (by omega)).mono ?_
  rintro e w7 ⟨rfl, n7, rfl⟩
  have hS1 : sameB (spanL s n 1) (spanL s n 1) = true := by simp [sameB]
  rw [hS1]
  have hB7 := below_drewN hB6 n7
  clear hS hS1 hown2 hown3 hown4 hown6 hcell4 hcell6 hb2 hb3 hb4 hb6
  by_cases hz : wrongN sp l.length = 0
  · obtain ⟨k0, k1, k2⟩ := wrongN_ok hz
    have HZ := Lib.hid hz; clear hz
    go_wp2_with fail
    refine (write_ok sp A l c t _ HZ.out ((hc.below hB7).more (by show _ ≤ w6.heap.size; omega)) ho ht0 ht1).mono ?_
    rintro e w8 ⟨v8, rfl, hown8, hb8⟩
    have hb8 : Below w6.heap.size w6 w8 := (below_drewN (Below.refl _ _) n7).trans hb8
    obtain ⟨q0, q1, q2⟩ := Three.below (w := w6) ⟨q0, q1, q2⟩ hb8 (by omega)
    have hs8 := hb8.size
    have hB8 := hB6.trans (hb8.mono (by omega))
    have hcell2 := hcell2.below (hb8.mono (by omega))
    have hcell3 := hcell3.below (hb8.mono (by omega))
    obtain ⟨A8, c8, e8, _, _, hcell8⟩ := hown8.shape
    rw [e8]
    clear e8 hb8 hown8
    have hlw := (writeL_len sp l t).2
    have how := oct_write (t := t) k0 k1 ho
    by_cases hy : wrongN s n.length = 0
    · obtain ⟨y0, y1, y2⟩ := wrongN_ok hy
      have ex : ∀ m, spanL s n m = frontL s n m := fun m => by rw [spanL, if_pos hy]
      have hne : (((spanL s n 0).length : Int) == 0) = false := by rw [ex 0, frontL_len]; simp; omega
      have ob0 := oct_span (sp := s) (m := 0) hon (by decide) (by decide)
      have ob1 := oct_span (sp := s) (m := 1) hon (by decide) (by decide)
      have hout := span_out s sp n l t hon ho
      have hin := span_in sp l t ho
      rw [← ex 0, ← ex 1] at hout
      have HO := Lib.hid hout
      have HI := Lib.hid hin
      have HE := Lib.hid ex
      clear hout hin ex
      go_wp2_with fail
      refine (less_b A8 A2 _ _ c8 c2 _ hcell8 (hcell2.more (by omega)) (by omega) (by omega) how ob0).mono ?_
      rintro e w9 ⟨rfl, hb9⟩
      have hs9 := hb9.size
      obtain ⟨q0, q1, q2⟩ := Three.below ⟨q0, q1, q2⟩ hb9 (by omega)
      have hcell8 := hcell8.below hb9
      have hcell3 := hcell3.below (hb9.mono (by omega))
      have hB9 := hB8.trans (hb9.mono (by omega))
      by_cases hss : sp = s
      · obtain rfl : sp = s := hss
        by_cases hnn : l = n
        · obtain rfl : l = n := hnn
          rw [show lessB (writeL sp l t) (spanL sp l 0) = false from by rw [HE.out]; exact HI.out.1]
          go_wp2_with fail
          refine (less_b A8 A3 _ _ c8 c3 _ (hcell8.more (by omega)) (hcell3.more (by omega)) (by omega) (by omega) how ob1).mono ?_
          rintro e w10 ⟨rfl, hb10⟩
          have hs10 := hb10.size
          obtain ⟨q0, q1, q2⟩ := Three.below ⟨q0, q1, q2⟩ hb10 (by omega)
          have hB10 := hB9.trans (hb10.mono (by omega))
          rw [show lessB (writeL sp l t) (spanL sp l 1) = true from by rw [HE.out]; exact HI.out.2]
          go_wp2_with fail
          refine (same_b A B l l c d _ ((hc.below hB10).more (by omega)) ((hcn.below hB10).more (by omega)) (by omega)).mono ?_
          rintro e w11 ⟨rfl, hb11⟩
          rw [show sameB l l = true from by simp [sameB]]
          go_wp2
          go_ret
          exact ⟨rfl, hB10.trans (hb11.mono (by omega))⟩
        · have hd := HO.out (fun h => hnn h.2)
          have hsm : sameB l n = false := by simp [sameB, hnn]
          have HS := Lib.hid hsm
          have HD := Lib.hid hd
          clear hsm hd
          by_cases hx : lessB (writeL sp l t) (spanL sp n 0) = true
          · rw [hx]
            clear hx
            go_wp2_with fail
            refine (same_b A B l n c d _ ((hc.below hB9).more (by omega)) ((hcn.below hB9).more (by omega)) (by omega)).mono ?_
            rintro e w11 ⟨rfl, hb11⟩
            rw [HS.out]
            go_wp2
            go_ret
            exact ⟨rfl, hB9.trans (hb11.mono (by omega))⟩
          · have hx := Bool.eq_false_iff.2 hx
            have hy : lessB (writeL sp l t) (spanL sp n 1) = false := by rw [← HD.out, hx]
            have HY := Lib.hid hy
            clear hy
            rw [hx]
            clear hx
            go_wp2_with fail
            refine (less_b A8 A3 _ _ c8 c3 _ (hcell8.more (by omega)) (hcell3.more (by omega)) (by omega) (by omega) how ob1).mono ?_
            rintro e w10 ⟨rfl, hb10⟩
            have hs10 := hb10.size
            obtain ⟨q0, q1, q2⟩ := Three.below ⟨q0, q1, q2⟩ hb10 (by omega)
            have hB10 := hB9.trans (hb10.mono (by omega))
            rw [HY.out]
            go_wp2_with fail
            refine (same_b A B l n c d _ ((hc.below hB10).more (by omega)) ((hcn.below hB10).more (by omega)) (by omega)).mono ?_
            rintro e w11 ⟨rfl, hb11⟩
            rw [HS.out]
            go_wp2
            go_ret
            exact ⟨rfl, hB10.trans (hb11.mono (by omega))⟩
      · have hd := HO.out (fun h => hss h.1)
        have hsb : (sp == s) = false := by simpa using hss
        have HD := Lib.hid hd
        clear hd
        by_cases hx : lessB (writeL sp l t) (spanL s n 0) = true
        · rw [hx]
          clear hx
          go_wp2
          go_ret
          exact ⟨rfl, hB9⟩
        · have hx := Bool.eq_false_iff.2 hx
          have hy : lessB (writeL sp l t) (spanL s n 1) = false := by rw [← HD.out, hx]
          have HY := Lib.hid hy
          clear hy
          rw [hx]
          clear hx
          go_wp2_with fail
          refine (less_b A8 A3 _ _ c8 c3 _ (hcell8.more (by omega)) (hcell3.more (by omega)) (by omega) (by omega) how ob1).mono ?_
          rintro e w10 ⟨rfl, hb10⟩
          have hs10 := hb10.size
          obtain ⟨q0, q1, q2⟩ := Three.below ⟨q0, q1, q2⟩ hb10 (by omega)
          rw [HY.out]
          go_wp2
          go_ret
          exact ⟨rfl, hB9.trans (hb10.mono (by omega))⟩
    · have ex : ∀ m, spanL s n m = [] := fun m => by rw [spanL, if_neg hy]
      rw [ex 0]
      clear ex
      go_wp2
      go_ret
      exact ⟨rfl, hB8⟩
  · have hb : (wrongN sp l.length != 0) = true := by simpa using hz
    go_wp2_with fail
    refine (write_no sp A l c t _ hz).mono ?_
    rintro e w8 ⟨rfl, hb8⟩
    have hb8 : Below w6.heap.size w6 w8 := (below_drewN (Below.refl _ _) n7).trans hb8
    go_wp2
    go_ret
    exact ⟨rfl, hB6.trans (hb8.mono (by omega))⟩
end Go.Proofs.Ytamfhjjepeggcaa
