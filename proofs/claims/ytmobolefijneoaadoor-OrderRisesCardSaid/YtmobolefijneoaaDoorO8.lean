/-
  munimentlaw03.count.
-/
import Derived.Test.YtmobolefijneoaaDoorO7
set_option linter.unusedVariables false
namespace Go.Proofs.YtmobolefijneoaaDoor
open Go.RowKit Go.Joins Go.Deep

open Classical in
/-- How often a value stands in a list. -/
noncomputable def cnt (l : List JV) (v : JV) : Nat := l.countP (fun x => decide (x = v))
theorem cnt_perm {l m : List JV} (h : l.Perm m) (v : JV) : cnt l v = cnt m v := h.countP_eq _
theorem cnt_le (l : List JV) (v : JV) : cnt l v ≤ l.length := List.countP_le_length
theorem cnt_yes {l : List JV} {q : Nat} {v : JV} (hq : q < l.length) (h : jat l q = v) : cnt (l.take (q + 1)) v = cnt (l.take q) v + 1 := by
  unfold cnt
  rw [List.take_succ_eq_append_getElem hq, List.countP_append, ← jat_lt hq, h]
  simp
theorem cnt_no {l : List JV} {q : Nat} {v : JV} (hq : q < l.length) (h : ¬ jat l q = v) : cnt (l.take (q + 1)) v = cnt (l.take q) v := by
  unfold cnt
  rw [List.take_succ_eq_append_getElem hq, List.countP_append, ← jat_lt hq]
  simp [h]

set_option maxHeartbeats 8000000 in
set_option maxRecDepth 20000 in
theorem count_any (A : Option Addr) (is : List LV) (c : Nat) (v : LV) (w : World) (hR : RowAt w A is c) (hv : v.At w) (hl : is.length ≤ 1000) :
    Calls Tryd.prog 20 #[.slice A is.length c, v.val] w fun e w' => e = .returned (.int .i64 (cnt (LV.js is) v.j)) ∧ Below w.heap.size w w' := by
  obtain ⟨V, hV⟩ : ∃ V, v.j = V := ⟨_, rfl⟩
  rw [hV]
  obtain ⟨k2, n2, s2, An2, ns2, cn2, Ai2, is2, ci2⟩ := v
  obtain ⟨W, hW⟩ : ∃ W, W = w.alloc (.cells (valBlk k2 n2 s2 An2 ns2 cn2 Ai2 is2 ci2) 25) := ⟨_, rfl⟩
  have hB0 : Below w.heap.size w W := by rw [hW]; exact (Below.refl _ _).alloc (Nat.le_refl _) _
  have hG0 : Blk W w.heap.size 25 (valBlk k2 n2 s2 An2 ns2 cn2 Ai2 is2 ci2) := by rw [hW]; exact Blk.new w _ _
  have HRW := Lib.hid (hR.below hB0)
  have HVW := Lib.hid (hv.below hB0 _)
  have hcap := hR.cap
  obtain ⟨n, hn⟩ : ∃ n, is.length = n := ⟨_, rfl⟩
  rw [hn] at hcap hl ⊢
  have HN := Lib.hid hn
  have HV := Lib.hid hV
  have HW := Lib.hid hW
  have HG0 := Lib.hid hG0
  clear hn hV hW hG0 hR hv
  show Calls Tryd.prog 20 #[.slice A n c, .agg #[.int .i64 k2, .int .i64 n2, .string s2, .slice An2 ns2.length cn2, .slice Ai2 is2.length ci2]] w _
  go_enter Tryd.func20, Tryd.ntmps20
  go_wp2
  rw [← HW.out]
  go_loopw [5, 6] (fun va vi wr => ∃ a i : Nat, va = .int .i64 a ∧ vi = .int .i64 i ∧ a = cnt ((LV.js is).take i) V ∧ i ≤ n ∧ Below W.heap.size W wr) (fun _ vi _ => n - (RowKit.intOf vi).toNat)
  case atStart => exact ⟨0, 0, rfl, rfl, rfl, Nat.zero_le _, Below.refl _ _⟩
  case round =>
    obtain ⟨a, i, rfl, rfl, ha, hi, hB⟩ := hrel
    by_cases hlt : i < n
    · have hiI : (i : Int) < (n : Int) := by omega
      have hi0 : (0 : Int) ≤ (i : Int) := by omega
      have hil : i < is.length := by rw [HN.out]; exact hlt
      have hij : i < (LV.js is).length := by rw [js_length]; exact hil
      have hal : a ≤ 1000 := by
        have := cnt_le ((LV.js is).take i) V
        rw [← ha, List.length_take] at this
        omega
      have hRa := HRW.out.below hB
      obtain ⟨b1, off1, rfl, _⟩ := hRa.addr (by omega)
      have hCMP1 := fun w' (hw' : Below wr.heap.size wr w') => same_any _ (nth is i) (LV.mk k2 n2 s2 An2 ns2 cn2 Ai2 is2 ci2) w' (Nat.lt_succ_self _) ((hRa.at hil).below hw' _) ((HVW.out.below hB _).below hw' _)
      rw [nth_j hil, HV.out] at hCMP1
      have hF1 := fun w' (hw' : Below wr.heap.size wr w') x0 x1 x2 x3 x4 (e : (nth is i).cells = [x0, x1, x2, x3, x4]) => (hRa.below hw').five hil e
      obtain ⟨x, hx⟩ : ∃ x, nth is i = x := ⟨_, rfl⟩
      rw [hx] at hCMP1 hF1
      obtain ⟨k1, n1, s1, An1, ns1, cn1, Ai1, is1, ci1⟩ := x
      have HG : Hid (∀ w', Below wr.heap.size wr w' → _) := Lib.hid fun w' hw' => (show w'.cell? ⟨w.heap.size, 0, none⟩ = some (.int .i64 k2) ∧ w'.cell? ⟨w.heap.size, 1, none⟩ = some (.int .i64 n2) ∧ w'.cell? ⟨w.heap.size, 2, none⟩ = some (.string s2) ∧ w'.cell? ⟨w.heap.size, 3, none⟩ = some (.slice An2 ns2.length cn2) ∧ w'.cell? ⟨w.heap.size, 4, none⟩ = some (.slice Ai2 is2.length ci2) from by
        have hG3 := HG0.out.below (hB.trans (hw'.mono hB.size)) HG0.out.lt
        exact ⟨hG3.cell 0, hG3.cell 1, hG3.cell 2, hG3.cell 3, hG3.cell 4⟩)
      have HF : Hid (∀ w', Below wr.heap.size wr w' → _) := Lib.hid fun w' hw' => hF1 w' hw' _ _ _ _ _ rfl
      have HB := Lib.hid hB
      have HA := Lib.hid ha
      clear hF1 hx hRa hB ha
      by_cases hJ : jat (LV.js is) i = V
      · have HST := Lib.hid (show a + 1 = cnt ((LV.js is).take (i + 1)) V by rw [cnt_yes hij hJ, HA.out])
        clear hil hij
        have HCMP : Hid (∀ w', Below wr.heap.size wr w' → Calls Tryd.prog 14 #[.agg #[.int .i64 k1, .int .i64 n1, .string s1, .slice An1 ns1.length cn1, .slice Ai1 is1.length ci1], .agg #[.int .i64 k2, .int .i64 n2, .string s2, .slice An2 ns2.length cn2, .slice Ai2 is2.length ci2]] w' fun e w'' => e = .returned (.bool true) ∧ Below w'.heap.size w' w'') := Lib.hid fun w' hw' => (hCMP1 w' hw').mono (fun e w'' h => by
          obtain ⟨⟨bb, rfl, hbb⟩, hq⟩ := h
          cases bb with
          | true => exact ⟨rfl, hq⟩
          | false => exact by have := hbb.2 hJ; cases this)
        clear hCMP1 hJ
        go_wp2_with fail
        refine region_calm (by kernel_rfl) (by kernel_rfl) ?_
        repeat (first
          | go_big_quiet_skip
          | (go_big_quiet_want
             apply quiet_at
             · intro w' hw'
               (obtain ⟨c0, c1, c2, c3, c4⟩ := HF.out _ (by assumption); obtain ⟨d0, d1, d2, d3, d4⟩ := HG.out _ (by assumption))
               go_simp
               first
                 | done
                 | exact rfl
                 | ((go_at_call 14; refine (HCMP.out _ (by assumption)).mono ?_; rintro e w9 ⟨h1, h2⟩; exact ⟨h1, Below.trans (by assumption) (h2.mono (Below.size (by assumption)))⟩))
             (try simp only [Act.put, List.setIfInBounds_toArray, List.set_cons_zero, List.set_cons_succ])
             go_big_quiet_on))
        refine wpQuiet_nil ?_
        intro w5 hb5
        have HB5 := Lib.hid (HB.out.trans ((show Below wr.heap.size wr w5 from hb5).mono HB.out.size))
        clear hb5
        go_wp2
        go_roundw
        case measure => simp [RowKit.intOf]; omega
        case rel => exact ⟨a + 1, i + 1, by go_num, by go_num, HST.out, by omega, HB5.out⟩
      · have HST := Lib.hid (show a = cnt ((LV.js is).take (i + 1)) V by rw [cnt_no hij hJ, HA.out])
        clear hil hij
        have HCMP : Hid (∀ w', Below wr.heap.size wr w' → Calls Tryd.prog 14 #[.agg #[.int .i64 k1, .int .i64 n1, .string s1, .slice An1 ns1.length cn1, .slice Ai1 is1.length ci1], .agg #[.int .i64 k2, .int .i64 n2, .string s2, .slice An2 ns2.length cn2, .slice Ai2 is2.length ci2]] w' fun e w'' => e = .returned (.bool false) ∧ Below w'.heap.size w' w'') := Lib.hid fun w' hw' => (hCMP1 w' hw').mono (fun e w'' h => by
          obtain ⟨⟨bb, rfl, hbb⟩, hq⟩ := h
          cases bb with
          | true => exact absurd (hbb.1 rfl) hJ
          | false => exact ⟨rfl, hq⟩)
        clear hCMP1 hJ
        go_wp2_with fail
        refine region_calm (by kernel_rfl) (by kernel_rfl) ?_
        repeat (first
          | go_big_quiet_skip
          | (go_big_quiet_want
             apply quiet_at
             · intro w' hw'
               (obtain ⟨c0, c1, c2, c3, c4⟩ := HF.out _ (by assumption); obtain ⟨d0, d1, d2, d3, d4⟩ := HG.out _ (by assumption))
               go_simp
               first
                 | done
                 | exact rfl
                 | ((go_at_call 14; refine (HCMP.out _ (by assumption)).mono ?_; rintro e w9 ⟨h1, h2⟩; exact ⟨h1, Below.trans (by assumption) (h2.mono (Below.size (by assumption)))⟩))
             (try simp only [Act.put, List.setIfInBounds_toArray, List.set_cons_zero, List.set_cons_succ])
             go_big_quiet_on))
        refine wpQuiet_nil ?_
        intro w5 hb5
        have HB5 := Lib.hid (HB.out.trans ((show Below wr.heap.size wr w5 from hb5).mono HB.out.size))
        clear hb5
        go_wp2
        go_roundw
        case measure => simp [RowKit.intOf]; omega
        case rel => exact ⟨a, i + 1, rfl, by go_num, HST.out, by omega, HB5.out⟩
    · have hiI : ¬ (i : Int) < (n : Int) := by omega
      have HA := Lib.hid (show a = cnt (LV.js is) V by rw [ha, List.take_of_length_le (by rw [js_length, HN.out]; omega)])
      clear ha
      go_wp2
      go_ret
      exact ⟨by rw [HA.out] <;> rfl, hB0.trans (hB.mono hB0.size)⟩

/-- The least of the numbers at which something holds. -/
theorem min_of (P : Nat → Prop) : ∀ k, P k → ∃ j, j ≤ k ∧ P j ∧ ∀ q, q < j → ¬ P q := by
  intro k
  induction k using Nat.strongRecOn with
  | _ k ih =>
    intro hk
    by_cases h : ∃ q, q < k ∧ P q
    · obtain ⟨q, hq, hp⟩ := h
      obtain ⟨j, h1, h2, h3⟩ := ih q hq hp
      exact ⟨j, by omega, h2, h3⟩
    · exact ⟨k, Nat.le_refl _, hk, fun q hq hp => h ⟨q, hq, hp⟩⟩
/-- There is a least one, and the first such. -/
theorem least_there {is : List LV} (ha : AllF is) (h0 : 0 < is.length) : ∃ k : Nat, k < is.length ∧ LeastR is k ∧ ∀ q, q < is.length → leJ (jat (LV.js is) k) (jat (LV.js is) q) := by
  obtain ⟨i, h1, h2⟩ := least_some (LV.js is) is.length h0
  obtain ⟨k, g1, g2, g3⟩ := min_of (fun k => ∀ q, q < is.length → leJ (jat (LV.js is) k) (jat (LV.js is) q)) i h2
  refine ⟨k, by omega, ⟨fun h => ?_, fun _ _ => ⟨k, by omega, rfl, g2, fun q hq => ⟨by omega, fun hle => g3 q hq fun p hp => leJ_trans hle (g2 p hp)⟩⟩⟩, g2⟩
  rcases h with h | h
  · exact absurd ha h
  · rw [h] at h0; simp at h0
end Go.Proofs.YtmobolefijneoaaDoor
