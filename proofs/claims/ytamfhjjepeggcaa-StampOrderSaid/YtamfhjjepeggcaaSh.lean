/-
  The contracts of stamp.Compare, munimentref05.Compare; the plain law of StampOrder; its walk.
-/
import Derived.Test.YtamfhjjepeggcaaSg
set_option linter.unusedVariables false
namespace Go.Proofs.Ytamfhjjepeggcaa
open Go.RowKit

theorem keyCmp_or (sp : Int) (l : List Int) (t sp' : Int) (l' : List Int) (t' : Int) : orN (cmpN sp sp') (cmpB l l') (cmpN t' t) = keyCmp sp l t sp' l' t' := rfl

theorem third (w : World) (a b : Obj) (x y z : Value) (t : TypeId) : Three (((w.alloc a).alloc b).alloc (.cells #[x, y, z] t)) (w.heap.size + 1 + 1) x y z := by
  have h := Three.new ((w.alloc a).alloc b) x y z t
  rwa [World.size_alloc, World.size_alloc] at h

set_option maxHeartbeats 2000000 in
theorem compare_any (sp : Int) (A : Option Addr) (l : List Int) (c : Nat) (t sp' : Int) (B : Option Addr) (l' : List Int) (d : Nat) (t' : Int) (w : World) (ha : Cells w w.heap.size A (U8 l)) (hb : Cells w w.heap.size B (U8 l')) (hoa : Oct l) (hob : Oct l') :
    Calls Try.prog 20 #[.agg #[.int .i64 sp, .slice A l.length c, .int .u64 t], .agg #[.int .i64 sp', .slice B l'.length d, .int .u64 t']] w fun e w' => e = .returned (.int .i64 (keyCmp sp l t sp' l' t')) ∧ Below w.heap.size w w' := by
  go_enter Try.func20, Try.ntmps20
  go_wp2
  go_region_held3 (fun w' => w'.cell? ⟨w.heap.size, 0, none⟩ = some (.int .i64 sp) ∧ w'.cell? ⟨w.heap.size, 1, none⟩ = some (.slice A l.length c) ∧ w'.cell? ⟨w.heap.size, 2, none⟩ = some (.int .u64 t) ∧ w'.cell? ⟨w.heap.size + 1, 0, none⟩ = some (.int .i64 sp') ∧ w'.cell? ⟨w.heap.size + 1, 1, none⟩ = some (.slice B l'.length d) ∧ w'.cell? ⟨w.heap.size + 1, 2, none⟩ = some (.int .u64 t')) (go_keep)
    (first
      | (go_at_call 30; refine (cmp_int _ _ _).mono ?_; rintro e w1 ⟨rfl, rfl⟩)
      | (go_at_call 31; refine (bytes_compare A B l l' c d _ (by exact ((ha.alloc (Nat.le_refl _) _).alloc (by simp) _).drew.whole) (by exact ((hb.alloc (Nat.le_refl _) _).alloc (by simp) _).drew.whole) hoa hob).mono ?_; rintro e w1 ⟨rfl, rfl⟩)
      | (go_at_call 32; refine (cmp_u64 _ _ _).mono ?_; rintro e w1 ⟨rfl, rfl⟩)
      | (go_at_call 29; refine (cmp_or _ (cmpN sp sp') (cmpB l l') (cmpN t' t) _ (by exact (third w _ _ _ _ _ _).1) (by exact (third w _ _ _ _ _ _).2.1) (by exact (third w _ _ _ _ _ _).2.2)).mono ?_; rintro e w1 ⟨rfl, rfl⟩))
  go_wp2
  go_ret
  exact ⟨rfl, ((((Below.refl _ _).alloc (Nat.le_refl _) _).alloc (by simp) _).alloc (by simp; omega) _).drew⟩

theorem cmpN_bd (x y : Int) : cmpN x y = -1 ∨ cmpN x y = 0 ∨ cmpN x y = 1 := by unfold cmpN; split <;> (try split) <;> simp

set_option maxHeartbeats 4000000 in
theorem rcompare_any (sp : Int) (A : Option Addr) (l : List Int) (c : Nat) (t sp' : Int) (B : Option Addr) (l' : List Int) (d : Nat) (t' : Int) (w : World) (ha : Cells w w.heap.size A (U8 l)) (hb : Cells w w.heap.size B (U8 l')) (hoa : Oct l) (hob : Oct l') (hl : l.length ≤ 100000000) (hl' : l'.length ≤ 100000000) :
    Calls Try.prog 21 #[.agg #[.int .i64 sp, .slice A l.length c, .int .u64 t], .agg #[.int .i64 sp', .slice B l'.length d, .int .u64 t']] w fun e w' => e = .returned (.int .i64 (keyCmp sp l t sp' l' t')) ∧ Below w.heap.size w w' := by
  have hB0 : ∀ o1 o2, Below w.heap.size w ((w.alloc o1).alloc o2) := fun o1 o2 => ((Below.refl _ _).alloc (Nat.le_refl _) _).alloc (by simp) _
  rcases Int.lt_trichotomy sp sp' with h | h | h
  · have e : keyCmp sp l t sp' l' t' = -1 := by simp [keyCmp, cmpN, h]
    have E := Lib.hid e; clear e
    go_enter Try.func21, Try.ntmps21
    go_wp2
    go_ret
    exact ⟨ret_int E.out.symm, hB0 _ _⟩
  · subst h
    by_cases h1 : lessB l l' = true
    · have e : keyCmp sp l t sp l' t' = -1 := by simp [keyCmp, cmpN, cmpB, h1]
      have E := Lib.hid e; clear e
      go_enter Try.func21, Try.ntmps21
      go_wp2_with fail
      refine (less_b A B l l' c d _ ((ha.alloc (Nat.le_refl _) _).alloc (by simp) _).whole ((hb.alloc (Nat.le_refl _) _).alloc (by simp) _).whole hl hl' hoa hob).mono ?_
      rintro e w1 ⟨rfl, hb1⟩
      rw [h1]
      clear h1
      go_wp2
      go_ret
      exact ⟨ret_int E.out.symm, (hB0 _ _).trans (hb1.mono (by simp; omega))⟩
    · have h1 := Bool.eq_false_iff.2 h1
      have hT1 := Three.new w (.int .i64 sp) (.slice A l.length c) (.int .u64 t) 31
      have hT2 := Three.new (w.alloc (.cells #[.int .i64 sp, .slice A l.length c, .int .u64 t] 31)) (.int .i64 sp) (.slice B l'.length d) (.int .u64 t') 31
      have hT1 := hT1.below ((Below.refl _ _).alloc (Nat.le_refl _) (.cells #[.int .i64 sp, .slice B l'.length d, .int .u64 t'] 31)) (by simp)
      rw [World.size_alloc] at hT2
      go_enter Try.func21, Try.ntmps21
      go_wp2_with fail
      refine (less_b A B l l' c d _ ((ha.alloc (Nat.le_refl _) _).alloc (by simp) _).whole ((hb.alloc (Nat.le_refl _) _).alloc (by simp) _).whole hl hl' hoa hob).mono ?_
      rintro e w1 ⟨rfl, hb1⟩
      rw [h1]
      obtain ⟨q0, q1, q2⟩ := hT1.below hb1 (by simp; omega)
      obtain ⟨p0, p1, p2⟩ := hT2.below hb1 (by simp)
      have hs1 : w.heap.size + 2 ≤ w1.heap.size := by have := hb1.size; simpa using this
      have hB1 : Below w.heap.size w w1 := (hB0 _ _).trans (hb1.mono (by simp; omega))
      clear hT1 hT2
      by_cases h2 : lessB l' l = true
      · have e : keyCmp sp l t sp l' t' = 1 := by simp [keyCmp, cmpN, cmpB, h1, h2]
        have E := Lib.hid e; clear e h1
        go_wp2_with fail
        refine (less_b B A l' l d c _ (hb.below hB1).whole (ha.below hB1).whole hl' hl hob hoa).mono ?_
        rintro e w2 ⟨rfl, hb2⟩
        rw [h2]
        clear h2
        go_wp2
        go_ret
        exact ⟨ret_int E.out.symm, hB1.trans (hb2.mono (by omega))⟩
      · have h2 := Bool.eq_false_iff.2 h2
        have e : keyCmp sp l t sp l' t' = cmpN t' t := by simp [keyCmp, cmpN, cmpB, h1, h2]
        have E := Lib.hid e; clear e h1
        go_wp2_with fail
        refine (less_b B A l' l d c _ (hb.below hB1).whole (ha.below hB1).whole hl' hl hob hoa).mono ?_
        rintro e w2 ⟨rfl, hb2⟩
        rw [h2]
        clear h2
        obtain ⟨q0, q1, q2⟩ := Three.below ⟨q0, q1, q2⟩ hb2 (by omega)
        obtain ⟨p0, p1, p2⟩ := Three.below ⟨p0, p1, p2⟩ hb2 (by omega)
        rcases Int.lt_trichotomy t' t with h | h | h
        · have e : cmpN t' t = -1 := by simp [cmpN, h]
          have E' := Lib.hid e; clear e
          go_wp2
          go_ret
          exact ⟨ret_int (by rw [E.out, E'.out]), hB1.trans (hb2.mono (by omega))⟩
        · subst h
          have e : cmpN t' t' = 0 := by simp [cmpN]
          have E' := Lib.hid e; clear e
          go_wp2
          go_ret
          exact ⟨ret_int (by rw [E.out, E'.out]), hB1.trans (hb2.mono (by omega))⟩
        · have h' : ¬ t' < t := by omega
          have e : cmpN t' t = 1 := by simp [cmpN, h, h']
          have E' := Lib.hid e; clear e
          go_wp2
          go_ret
          exact ⟨ret_int (by rw [E.out, E'.out]), hB1.trans (hb2.mono (by omega))⟩
  · have h' : ¬ sp < sp' := by omega
    have e : keyCmp sp l t sp' l' t' = 1 := by simp [keyCmp, cmpN, h, h']
    have E := Lib.hid e; clear e
    go_enter Try.func21, Try.ntmps21
    go_wp2
    go_ret
    exact ⟨ret_int E.out.symm, hB0 _ _⟩

/-- Keys are ordered as their bytes are. -/
theorem order_less (sp : Int) (l : List Int) (t sp' : Int) (l' : List Int) (t' : Int) (hoa : Oct l) (hob : Oct l') (h0 : 0 ≤ t) (h1 : t ≤ 18446744073709551615) (h0' : 0 ≤ t') (h1' : t' ≤ 18446744073709551615) :
    lessB (writeL sp l t) (writeL sp' l' t') = decide (keyCmp sp l t sp' l' t' < 0) := by
  by_cases hs : sp = sp'
  · subst hs
    have e : lessB (writeL sp l t) (writeL sp l' t') = lessB (esc l ++ 0 :: 0 :: be64 (18446744073709551615 - t)) (esc l' ++ 0 :: 0 :: be64 (18446744073709551615 - t')) := by
      simp [writeL, frontL, lessB]
    have hk : cmpN sp sp = 0 := by simp [cmpN]
    rw [e]
    by_cases hl : l = l'
    · subst hl
      rw [(esc_less l l _ _ hoa hob).1 rfl, be64_less _ _ (by omega) (by omega) (by omega) (by omega), decide_eq_decide]
      have hc : cmpB l l = 0 := by simp [cmpB, lessB_self]
      simp only [keyCmp, hc, ne_eq, not_true_eq_false, if_false, cmpN]
      split
      · omega
      · split <;> omega
    · rw [(esc_less l l' _ _ hoa hob).2 hl]
      simp only [keyCmp, hk, ne_eq, not_true_eq_false, if_false]
      rcases lessB_tri l l' with h | h | h
      · simp [cmpB, h]
      · exact absurd h hl
      · have := lessB_asymm _ _ h
        simp [cmpB, h, this]
  · have e : lessB (writeL sp l t) (writeL sp' l' t') = decide (sp < sp') := by simp [writeL, frontL, lessB, hs]
    rw [e, decide_eq_decide]
    simp only [keyCmp, cmpN]
    split
    · simp; omega
    · split
      · simp; omega
      · omega
theorem keyCmp_swap (sp : Int) (l : List Int) (t sp' : Int) (l' : List Int) (t' : Int) : keyCmp sp' l' t' sp l t = - keyCmp sp l t sp' l' t' := by
  have hn : ∀ x y : Int, cmpN y x = - cmpN x y := fun x y => by
    unfold cmpN
    split <;> split <;> (try split) <;> omega
  have hb : cmpB l' l = - cmpB l l' := by
    unfold cmpB
    rcases lessB_tri l l' with h | h | h
    · simp [h, lessB_asymm _ _ h]
    · subst h; simp [lessB_self]
    · simp [h, lessB_asymm _ _ h]
  unfold keyCmp
  rw [hn sp sp', hb, hn t' t]
  split <;> split <;> (try split) <;> (try split) <;> omega
theorem order_same (sp : Int) (l : List Int) (t sp' : Int) (l' : List Int) (t' : Int) (hoa : Oct l) (hob : Oct l') (h0 : 0 ≤ t) (h1 : t ≤ 18446744073709551615) (h0' : 0 ≤ t') (h1' : t' ≤ 18446744073709551615) :
    sameB (writeL sp l t) (writeL sp' l' t') = decide (keyCmp sp l t sp' l' t' = 0) := by
  have e1 := order_less sp l t sp' l' t' hoa hob h0 h1 h0' h1'
  have e2 := order_less sp' l' t' sp l t hob hoa h0' h1' h0 h1
  rw [keyCmp_swap] at e2
  rw [sameB, decide_eq_decide]
  constructor
  · intro e
    rw [e, lessB_self] at e1
    rw [e, lessB_self] at e2
    have a1 := of_decide_eq_false e1.symm
    have a2 := of_decide_eq_false e2.symm
    omega
  · intro e
    rcases lessB_tri (writeL sp l t) (writeL sp' l' t') with h | h | h
    · rw [h] at e1
      have := of_decide_eq_true e1.symm
      omega
    · exact h
    · rw [h] at e2
      have := of_decide_eq_true e2.symm
      omega

set_option maxHeartbeats 8000000 in
theorem order_walk (sp : Int) (A : Option Addr) (l : List Int) (c : Nat) (t sp' : Int) (B : Option Addr) (l' : List Int) (d : Nat) (t' : Int) (w : World)
    (hc : Cells w w.heap.size A (U8 l)) (ho : Oct l) (hl : l.length ≤ 9223372036854775807) (ht0 : 0 ≤ t) (ht1 : t ≤ 18446744073709551615)
    (hc' : Cells w w.heap.size B (U8 l')) (ho' : Oct l') (hl' : l'.length ≤ 9223372036854775807) (ht0' : 0 ≤ t') (ht1' : t' ≤ 18446744073709551615) :
    Calls Try.prog 7 #[.agg #[.int .i64 sp, .slice A l.length c, .int .u64 t], .agg #[.int .i64 sp', .slice B l'.length d, .int .u64 t']] w fun e w' => e = .returned (.bool true) ∧ Below w.heap.size w w' := by
  have hB0 : ∀ o1 o2, Below w.heap.size w ((w.alloc o1).alloc o2) := fun o1 o2 => ((Below.refl _ _).alloc (Nat.le_refl _) _).alloc (by simp) _
  have hT1 := Three.new w (.int .i64 sp) (.slice A l.length c) (.int .u64 t) 25
  have hT2 := Three.new (w.alloc (.cells #[.int .i64 sp, .slice A l.length c, .int .u64 t] 25)) (.int .i64 sp') (.slice B l'.length d) (.int .u64 t') 25
  have hT1 := hT1.below ((Below.refl _ _).alloc (Nat.le_refl _) (.cells #[.int .i64 sp', .slice B l'.length d, .int .u64 t'] 25)) (by simp)
  rw [World.size_alloc] at hT2
  by_cases h1 : 1000 < l.length
  · go_enter Try.func7, Try.ntmps7
    go_wp2_with fail
    refine (awake_any _).mono ?_
    rintro e w1 ⟨rfl, hb1⟩
    obtain ⟨q0, q1, q2⟩ := hT1.below hb1 (by simp; omega)
    obtain ⟨p0, p1, p2⟩ := hT2.below hb1 (by simp)
    go_wp2_with fail
    refine (awake_any _).mono ?_
    rintro e w2 ⟨rfl, hb2⟩
    go_wp2
    go_ret
    exact ⟨rfl, ((hB0 _ _).trans (hb1.mono (by simp; omega))).trans (hb2.mono (by have := hb1.size; simp at this; omega))⟩
  by_cases h2 : 1000 < l'.length
  · go_enter Try.func7, Try.ntmps7
    go_wp2_with fail
    refine (awake_any _).mono ?_
    rintro e w1 ⟨rfl, hb1⟩
    obtain ⟨q0, q1, q2⟩ := hT1.below hb1 (by simp; omega)
    obtain ⟨p0, p1, p2⟩ := hT2.below hb1 (by simp)
    go_wp2_with fail
    refine (awake_any _).mono ?_
    rintro e w2 ⟨rfl, hb2⟩
    go_wp2
    go_ret
    exact ⟨rfl, ((hB0 _ _).trans (hb1.mono (by simp; omega))).trans (hb2.mono (by have := hb1.size; simp at this; omega))⟩
  have hlen : l.length ≤ 1000 := by omega
  have hlen' : l'.length ≤ 1000 := by omega
  have K0 : ∀ K : Int, (K != K) = false := by simp
  have fin : True := trivial
  obtain ⟨K, hK⟩ : ∃ K, keyCmp sp l t sp' l' t' = K := ⟨_, rfl⟩
  have hLS := order_less sp l t sp' l' t' ho ho' ht0 ht1 ht0' ht1'
  have hSM := order_same sp l t sp' l' t' ho ho' ht0 ht1 ht0' ht1'
  rw [hK] at hLS hSM
  have HKK := Lib.hid hK
  have HLS := Lib.hid hLS
  have HSM := Lib.hid hSM
  clear hK hLS hSM
  go_enter Try.func7, Try.ntmps7
  go_wp2_with fail
  refine (awake_any _).mono ?_
  rintro e w1 ⟨rfl, hb1⟩
  obtain ⟨q0, q1, q2⟩ := hT1.below hb1 (by simp; omega)
  obtain ⟨p0, p1, p2⟩ := hT2.below hb1 (by simp)
  have hs1 : w.heap.size + 2 ≤ w1.heap.size := by have := hb1.size; simpa using this
  have hB1 : Below w.heap.size w w1 := (hB0 _ _).trans (hb1.mono (by simp; omega))
  clear hT1 hT2
  go_wp2_with fail
  refine (compare_any sp A l c t sp' B l' d t' _ (hc.below hB1).whole (hc'.below hB1).whole ho ho').mono ?_
  rintro e w2 ⟨rfl, hb2⟩
  rw [HKK.out]
  obtain ⟨q0, q1, q2⟩ := Three.below ⟨q0, q1, q2⟩ hb2 (by omega)
  obtain ⟨p0, p1, p2⟩ := Three.below ⟨p0, p1, p2⟩ hb2 (by omega)
  have hs2 := hb2.size
  have hB2 := hB1.trans (hb2.mono (by omega))
  go_wp2_with fail
  refine (rcompare_any sp A l c t sp' B l' d t' _ (hc.below hB2).whole (hc'.below hB2).whole ho ho' (by omega) (by omega)).mono ?_
  rintro e w3 ⟨rfl, hb3⟩
  rw [HKK.out]
  obtain ⟨q0, q1, q2⟩ := Three.below ⟨q0, q1, q2⟩ hb3 (by omega)
  obtain ⟨p0, p1, p2⟩ := Three.below ⟨p0, p1, p2⟩ hb3 (by omega)
  have hs3 := hb3.size
  have hB3 := hB2.trans (hb3.mono (by omega))
  by_cases hz : wrongN sp l.length = 0
  · obtain ⟨k0, k1, k2⟩ := wrongN_ok hz
    have HZ := Lib.hid hz; clear hz
    go_wp2_with fail
    refine (write_ok sp A l c t _ HZ.out (hc.below hB3).whole ho ht0 ht1).mono ?_
    rintro e w4 ⟨v4, rfl, hown4, hb4⟩
    obtain ⟨A4, c4, e4, _, _, hcell4⟩ := hown4.shape
    subst e4
    obtain ⟨q0, q1, q2⟩ := Three.below ⟨q0, q1, q2⟩ hb4 (by omega)
    obtain ⟨p0, p1, p2⟩ := Three.below ⟨p0, p1, p2⟩ hb4 (by omega)
    have hs4 := hb4.size
    have hB4 := hB3.trans (hb4.mono (by omega))
    by_cases hz' : wrongN sp' l'.length = 0
    · obtain ⟨k0', k1', k2'⟩ := wrongN_ok hz'
      have HZ' := Lib.hid hz'; clear hz'
      go_wp2_with fail
      refine (write_ok sp' B l' d t' _ HZ'.out (hc'.below hB4).whole ho' ht0' ht1').mono ?_
      rintro e w5 ⟨v5, rfl, hown5, hb5⟩
      obtain ⟨A5, c5, e5, _, _, hcell5⟩ := hown5.shape
      subst e5
      have hs5 := hb5.size
      have hB5 := hB4.trans (hb5.mono (by omega))
      have hw4 := writeL_len sp l t
      have hw5 := writeL_len sp' l' t'
      have how4 := oct_write (t := t) k0 k1 ho
      have how5 := oct_write (t := t') k0' k1' ho'
      rcases Int.lt_trichotomy K 0 with hk | hk | hk
      · have d1 : decide (K < 0) = true := by simpa using hk
        have d2 : decide (K = 0) = false := by simp; omega
        have d3 : (K == 0) = false := by simp; omega
        rw [d1] at HLS
        rw [d2] at HSM
        clear d1 d2
        go_wp2_with fail
        refine (less_b A4 A5 _ _ c4 c5 _ ((hcell4.below hb5).whole) hcell5 (by omega) (by omega) how4 how5).mono ?_
        rintro e w6 ⟨rfl, hb6⟩
        rw [HLS.out]
        have hs6 := hb6.size
        go_wp2_with fail
        refine (same_b A4 A5 _ _ c4 c5 _ ((hcell4.below (hb5.trans (hb6.mono (by omega)))).whole) ((hcell5.below hb6).whole) (by omega)).mono ?_
        rintro e w7 ⟨rfl, hb7⟩
        rw [HSM.out]
        go_wp2
        go_ret
        exact ⟨rfl, (hB5.trans (hb6.mono (by omega))).trans (hb7.mono (by omega))⟩
      · subst hk
        have d1 : decide ((0 : Int) < 0) = false := by decide
        have d2 : decide ((0 : Int) = 0) = true := by decide
        rw [d1] at HLS
        rw [d2] at HSM
        clear d1 d2
        go_wp2_with fail
        refine (less_b A4 A5 _ _ c4 c5 _ ((hcell4.below hb5).whole) hcell5 (by omega) (by omega) how4 how5).mono ?_
        rintro e w6 ⟨rfl, hb6⟩
        rw [HLS.out]
        have hs6 := hb6.size
        go_wp2_with fail
        refine (same_b A4 A5 _ _ c4 c5 _ ((hcell4.below (hb5.trans (hb6.mono (by omega)))).whole) ((hcell5.below hb6).whole) (by omega)).mono ?_
        rintro e w7 ⟨rfl, hb7⟩
        rw [HSM.out]
        go_wp2
        go_ret
        exact ⟨rfl, (hB5.trans (hb6.mono (by omega))).trans (hb7.mono (by omega))⟩
      · have d1 : decide (K < 0) = false := by simp; omega
        have d2 : decide (K = 0) = false := by simp; omega
        have d3 : (K == 0) = false := by simp; omega
        rw [d1] at HLS
        rw [d2] at HSM
        clear d1 d2
        go_wp2_with fail
        refine (less_b A4 A5 _ _ c4 c5 _ ((hcell4.below hb5).whole) hcell5 (by omega) (by omega) how4 how5).mono ?_
        rintro e w6 ⟨rfl, hb6⟩
        rw [HLS.out]
        have hs6 := hb6.size
        go_wp2_with fail
        refine (same_b A4 A5 _ _ c4 c5 _ ((hcell4.below (hb5.trans (hb6.mono (by omega)))).whole) ((hcell5.below hb6).whole) (by omega)).mono ?_
        rintro e w7 ⟨rfl, hb7⟩
        rw [HSM.out]
        go_wp2
        go_ret
        exact ⟨ret_bool (by simp; omega), (hB5.trans (hb6.mono (by omega))).trans (hb7.mono (by omega))⟩
    · have hzb : (wrongN sp' l'.length != 0) = true := by simpa using hz'
      go_wp2_with fail
      refine (write_no sp' B l' d t' _ hz').mono ?_
      rintro e w5 ⟨rfl, hb5⟩
      go_wp2
      go_ret
      exact ⟨rfl, hB4.trans (hb5.mono (by omega))⟩
  · have hzb : (wrongN sp l.length != 0) = true := by simpa using hz
    go_wp2_with fail
    refine (write_no sp A l c t _ hz).mono ?_
    rintro e w4 ⟨rfl, hb4⟩
    obtain ⟨q0, q1, q2⟩ := Three.below ⟨q0, q1, q2⟩ hb4 (by omega)
    obtain ⟨p0, p1, p2⟩ := Three.below ⟨p0, p1, p2⟩ hb4 (by omega)
    have hs4 := hb4.size
    have hB4 := hB3.trans (hb4.mono (by omega))
    by_cases hz' : wrongN sp' l'.length = 0
    · have HZ' := Lib.hid hz'; clear hz'
      go_wp2_with fail
      refine (write_ok sp' B l' d t' _ HZ'.out (hc'.below hB4).whole ho' ht0' ht1').mono ?_
      rintro e w5 ⟨v5, rfl, hown5, hb5⟩
      go_wp2
      go_ret
      exact ⟨rfl, hB4.trans (hb5.mono (by omega))⟩
    · go_wp2_with fail
      refine (write_no sp' B l' d t' _ hz').mono ?_
      rintro e w5 ⟨rfl, hb5⟩
      go_wp2
      go_ret
      exact ⟨rfl, hB4.trans (hb5.mono (by omega))⟩
end Go.Proofs.Ytamfhjjepeggcaa
