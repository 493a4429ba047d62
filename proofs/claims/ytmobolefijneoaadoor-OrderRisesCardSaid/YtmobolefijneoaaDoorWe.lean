/-
  The contracts of munimentref01.depth, Depth.
-/
import Derived.Test.YtmobolefijneoaaDoorWd
import Derived.LoopTactic
set_option linter.unusedVariables false
namespace Go.Proofs.YtmobolefijneoaaDoor
open Go.RowKit

theorem depthAll_take : ∀ (l : List JV) (most q : Nat) (h : q < l.length), depthAll (l.take (q + 1)) most = max (depthAll (l.take q) most) (depthJ l[q] most)
  | x :: xs, most, 0, _ => by simp [depthAll]
  | x :: xs, most, q + 1, h => by
    have := depthAll_take xs most q (by simpa using h)
    simp only [List.take_succ_cons, depthAll, List.getElem_cons_succ] at this ⊢
    rw [this]; omega
  | [], _, q, h => absurd h (by simp)
mutual
theorem depthJ_le : ∀ (j : JV) (most : Nat), 1 ≤ most → depthJ j most ≤ most
  | .mk k n s ns is, most, h => by
    have := depthJ_leAll is (most - 1)
    rw [depthJ]; split
    · exact h
    · have := this (by omega); omega
theorem depthJ_leAll : ∀ (is : List JV) (most : Nat), 1 ≤ most → depthAll is most ≤ most
  | [], most, _ => by simp [depthAll]
  | x :: xs, most, h => by
    have h1 := depthJ_le x most h
    have h2 := depthJ_leAll xs most h
    rw [depthAll]; omega
end

set_option maxHeartbeats 8000000 in
theorem depth_any : ∀ (m : Nat) (v : LV) (most : Nat) (w : World), v.sz < m → v.At w → 1 ≤ most → most ≤ 100 →
    Calls Tryd.prog 48 #[v.val, .int .i64 most] w fun e w' => e = .returned (.int .i64 (depthJ v.j most : Nat)) ∧ Below w.heap.size w w' := by
  intro m
  induction m with
  | zero => intro v most w hm; omega
  | succ m ih =>
    intro v most w hm hv hm1 hm2
    obtain ⟨k, n, s, An, ns, cn, Ai, is, ci⟩ := v
    obtain ⟨W, hW⟩ : ∃ W, W = w.alloc (.cells (valBlk k n s An ns cn Ai is ci) 25) := ⟨_, rfl⟩
    have hB0 : Below w.heap.size w W := by rw [hW]; exact (Below.refl _ _).alloc (Nat.le_refl _) _
    have hF : Blk W w.heap.size 25 (valBlk k n s An ns cn Ai is ci) := by rw [hW]; exact Blk.new w _ _
    have hvW := hv.below hB0 _
    have hci : is.length ≤ ci ∧ ci ≤ 9223372036854775807 := by unfold LV.At at hv; exact hv.2.2.2.2.2.2.2.2
    have HW := Lib.hid hW
    clear hW hv
    obtain ⟨D, hD⟩ : ∃ D : Nat, D = depthJ (LV.mk k n s An ns cn Ai is ci).j most := ⟨_, rfl⟩
    rw [← hD]
    have HD : Hid (D = if (k ≠ 5 ∧ k ≠ 6) ∨ most = 1 then 1 else depthAll (LV.js is) (most - 1) + 1) := Lib.hid (by rw [hD, LV.j, depthJ])
    clear hD
    show Calls Tryd.prog 48 #[.agg (valBlk k n s An ns cn Ai is ci), .int .i64 most] w _
    have hc0 : W.cell? ⟨w.heap.size, 0, none⟩ = some (.int .i64 k) := hF.cell 0
    by_cases hk : (k ≠ 5 ∧ k ≠ 6) ∨ most = 1
    · have HD1 : Hid (D = 1) := Lib.hid (by rw [HD.out, if_pos hk])
      rcases hk with ⟨h5, h6⟩ | h1
      · have b5 : (k != 5) = true := by simp [h5]
        have b6 : (k != 6) = true := by simp [h6]
        clear h5 h6
        go_enter Tryd.func48, Tryd.ntmps48
        go_wp2
        rw [← HW.out]
        go_ret
        exact ⟨by rw [HD1.out]; rfl, hB0⟩
      · subst h1
        by_cases h5 : k = 5
        · subst h5
          go_enter Tryd.func48, Tryd.ntmps48
          go_wp2
          rw [← HW.out]
          go_ret
          exact ⟨by rw [HD1.out]; rfl, hB0⟩
        · have b5 : (k != 5) = true := by simp [h5]
          clear h5
          by_cases h6 : k = 6
          · subst h6
            go_enter Tryd.func48, Tryd.ntmps48
            go_wp2
            rw [← HW.out]
            go_ret
            exact ⟨by rw [HD1.out]; rfl, hB0⟩
          · have b6 : (k != 6) = true := by simp [h6]
            clear h6
            go_enter Tryd.func48, Tryd.ntmps48
            go_wp2
            rw [← HW.out]
            go_ret
            exact ⟨by rw [HD1.out]; rfl, hB0⟩
    · have HD1 : Hid (D = depthAll (LV.js is) (most - 1) + 1) := Lib.hid (by rw [HD.out, if_neg hk])
      have hk5 : k = 5 ∨ k = 6 := by omega
      have hmo : most ≠ 1 := fun h => hk (.inr h)
      have bm : ((most : Int) == 1) = false := by simp; omega
      have hm3 : 2 ≤ most := by omega
      clear hk hmo
      rcases hk5 with rfl | rfl
      all_goals
        go_enter Tryd.func48, Tryd.ntmps48
        go_wp2
        rw [← HW.out]
        clear hc0
        go_loopw [5, 6] (fun x i wr => ∃ a q : Nat, i = .int .i64 q ∧ x = .int .i64 a ∧ a ≤ 100 ∧ q ≤ is.length ∧ Hid (a = depthAll ((LV.js is).take q) (most - 1)) ∧ Below W.heap.size W wr)
          (fun _ i _ => is.length - (RowKit.intOf i).toNat)
        case atStart => exact ⟨0, 0, rfl, rfl, by omega, Nat.zero_le _, Lib.hid (by simp [depthAll]), Below.refl _ _⟩
        case round =>
          obtain ⟨a, q, rfl, rfl, ha, hq, HA, hB⟩ := hrel
          have hFr := hF.below hB hF.lt
          have c4 : wr.cell? ⟨w.heap.size, 4, none⟩ = some (.slice Ai is.length ci) := hFr.cell 4
          by_cases hlt : q < is.length
          · have hqI : (q : Int) < (is.length : Int) := by omega
            obtain ⟨b, off, rfl, hb, hit, hcell⟩ := (hvW.below hB _).item hlt
            have hlm : (most : Int) - 1 = ((most - 1 : Nat) : Int) := by omega
            have HC := Lib.hid (ih is[q] (most - 1) wr (by have := LV.item_size (k := 5) (n := n) (s := s) (An := An) (ns := ns) (cn := cn) (Ai := some ⟨b, off, none⟩) (ci := ci) hlt; simp only [LV.sz] at this hm ⊢; omega) hit (by omega) (by omega))
            have HNX : Hid (depthAll ((LV.js is).take (q + 1)) (most - 1) = max a (depthJ (is[q]).j (most - 1))) := Lib.hid (by
              rw [depthAll_take _ _ _ (by rw [LV.js_len]; exact hlt), ← HA.out, LV.js_at is hlt])
            have hdl := depthJ_le (is[q]).j (most - 1) (by omega)
            obtain ⟨x, hx⟩ : ∃ x, is[q] = x := ⟨_, rfl⟩
            rw [hx] at HC hcell HNX hdl
            generalize depthJ x.j (most - 1) = d at *
            obtain ⟨k', n', s', An', ns', cn', Ai', is', ci'⟩ := x
            have d0 : wr.cell? ⟨b, off + q * 5, none⟩ = some (.int .i64 k') := hcell 0 _ rfl
            have d1 : wr.cell? ⟨b, off + q * 5 + 1, none⟩ = some (.int .i64 n') := hcell 1 _ rfl
            have d2 : wr.cell? ⟨b, off + q * 5 + 2, none⟩ = some (.string s') := hcell 2 _ rfl
            have d3 : wr.cell? ⟨b, off + q * 5 + 3, none⟩ = some (.slice An' ns'.length cn') := hcell 3 _ rfl
            have d4 : wr.cell? ⟨b, off + q * 5 + 4, none⟩ = some (.slice Ai' is'.length ci') := hcell 4 _ rfl
            have HA2 : Hid (∀ e : Nat, e = max a d → e = depthAll ((LV.js is).take (q + 1)) (most - 1)) := Lib.hid fun e he => he.trans HNX.out.symm
            have hd100 : d ≤ 100 := by omega
            clear hdl HNX HA
            generalize most - 1 = most' at *
            clear hcell hx ih
            by_cases had : a < d
            · have hadI : (a : Int) < (d : Int) := by omega
              go_wp2_with fail
              refine HC.out.mono ?_
              rintro e w2 ⟨rfl, hb2⟩
              go_wp2
              go_roundw
              case rel => exact ⟨d, q + 1, by go_num, congrArg (Value.int .i64) (by omega), by omega, by omega, Lib.hid (HA2.out d (by omega)), hB.trans (hb2.mono hB.size)⟩
              case measure => simp [RowKit.intOf]; omega
            · have hadI : ¬ (a : Int) < (d : Int) := by omega
              go_wp2_with fail
              refine HC.out.mono ?_
              rintro e w2 ⟨rfl, hb2⟩
              go_wp2
              go_roundw
              case rel => exact ⟨a, q + 1, by go_num, congrArg (Value.int .i64) (by omega), by omega, by omega, Lib.hid (HA2.out a (by omega)), hB.trans (hb2.mono hB.size)⟩
              case measure => simp [RowKit.intOf]; omega
          · have hqI : ¬ (q : Int) < (is.length : Int) := by omega
            have HE : Hid (D = a + 1) := Lib.hid (by
              have h1 := HA.out
              rw [List.take_of_length_le (by rw [LV.js_len]; omega)] at h1
              rw [HD1.out, h1])
            have hBF := hB0.trans (hB.mono hB0.size)
            go_wp2
            go_ret
            exact ⟨by rw [HE.out]; simp, hBF⟩

set_option maxHeartbeats 2000000 in
theorem rdepth_any (v : LV) (w : World) (hv : v.At w) : Calls Tryd.prog 36 #[v.val] w fun e w' => e = .returned (.int .i64 (depthJ v.j 7 : Nat)) ∧ Below w.heap.size w w' := by
  obtain ⟨k, n, s, An, ns, cn, Ai, is, ci⟩ := v
  obtain ⟨W, hW⟩ : ∃ W, W = w.alloc (.cells (valBlk k n s An ns cn Ai is ci) 25) := ⟨_, rfl⟩
  have hB0 : Below w.heap.size w W := by rw [hW]; exact (Below.refl _ _).alloc (Nat.le_refl _) _
  have HC := Lib.hid (depth_any _ (.mk k n s An ns cn Ai is ci) 7 W (Nat.lt_succ_self _) (hv.below hB0 _) (by omega) (by omega))
  have HW := Lib.hid hW
  clear hW hv
  generalize depthJ (LV.mk k n s An ns cn Ai is ci).j 7 = D at *
  show Calls Tryd.prog 36 #[.agg (valBlk k n s An ns cn Ai is ci)] w _
  go_enter Tryd.func36, Tryd.ntmps36
  go_wp2_with fail
  rw [← HW.out]
  refine HC.out.mono ?_
  rintro e w2 ⟨rfl, hb2⟩
  go_wp2
  go_ret
  exact ⟨rfl, hB0.trans (hb2.mono hB0.size)⟩
end Go.Proofs.YtmobolefijneoaaDoor
