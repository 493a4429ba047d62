/-
  The contract of munimentref03.Plain (of formed values).
-/
import Derived.Test.YtmobolefijneoaaDoorOb
set_option linter.unusedVariables false
namespace Go.Proofs.YtmobolefijneoaaDoor
open Go.RowKit

theorem cmpI_ne {a b : Int} (h : a ≠ b) : cmpI a b ≠ 0 := by
  rcases cmpI_cases a b with ⟨_, h2⟩ | ⟨_, h2⟩ | ⟨h2, _⟩
  · omega
  · omega
  · exact absurd h2 h
theorem cmpI_self (a : Int) : cmpI a a = 0 := by simp [cmpI]
theorem cmpS_empty {s s2 : ByteArray} (h : s.toList = []) (h2 : s2.toList = []) : cmpS s s2 = 0 := by
  rw [ByteArray.toList_eq] at h h2
  unfold cmpS
  rw [h, h2]; rfl
theorem cmpJ_kind {k n k2 n2 : Int} {s s2 : ByteArray} {ns ns2 : List ByteArray} {is is2 : List JV} (h : k ≠ k2) : cmpJ (.mk k n s ns is) (.mk k2 n2 s2 ns2 is2) = cmpI k k2 := by
  have h1 := cmpI_ne h
  rw [cmpJ, show firstNZ [cmpI k k2, cmpI n n2, cmpS s s2] = cmpI k k2 by rw [firstNZ, if_pos h1], if_pos h1]
theorem cmpJ_low {k n n2 : Int} {s s2 : ByteArray} {ns ns2 : List ByteArray} (hk : k < 5) (hs : k ≠ 4 → s.toList = []) (hs2 : k ≠ 4 → s2.toList = []) (hn : k ≠ 3 → n = 0) (hn2 : k ≠ 3 → n2 = 0) :
    cmpJ (.mk k n s ns []) (.mk k n2 s2 ns2 []) = if k = 3 then cmpI n n2 else if k = 4 then cmpS s s2 else 0 := by
  rw [cmpJ, rowsJ]
  have e0 := cmpI_self k
  by_cases h3 : k = 3
  · have e2 := cmpS_empty (hs (by omega)) (hs2 (by omega))
    rw [if_pos h3, e0, e2]
    simp only [firstNZ]
    by_cases hc : cmpI n n2 = 0 <;> simp [hc]
  · have e1 : cmpI n n2 = 0 := by rw [hn h3, hn2 h3]; exact cmpI_self 0
    rw [if_neg h3, e0, e1]
    by_cases h4 : k = 4
    · rw [if_pos h4]
      simp only [firstNZ]
      by_cases hc : cmpS s s2 = 0 <;> simp [hc]
    · rw [if_neg h4, cmpS_empty (hs h4) (hs2 h4)]
      simp [firstNZ]
theorem cmpJ_rows {k : Int} {s s2 : ByteArray} {ns ns2 : List ByteArray} {is is2 : List JV} (hs : s.toList = []) (hs2 : s2.toList = []) : cmpJ (.mk k 0 s ns is) (.mk k 0 s2 ns2 is2) = rowsJ (decide (k = 6)) is is2 ns ns2 := by
  rw [cmpJ, cmpI_self, cmpI_self, cmpS_empty hs hs2]
  simp [firstNZ]
set_option maxRecDepth 8000 in
set_option maxHeartbeats 16000000 in
theorem plain_any : ∀ (m : Nat) (v v2 : LV) (left left2 : Nat) (w : World), v.sz < m → v.At w → v2.At w → FormedP v.j left → FormedP v2.j left2 →
    Calls Tryd.prog 25 #[v.val, v2.val] w fun e w' => e = .returned (.int .i64 (cmpJ v.j v2.j)) ∧ Below w.heap.size w w' := by
  intro m
  induction m with
  | zero => intro v v2 left left2 w hm; omega
  | succ m ih =>
    intro v v2 left left2 w hm hv hv2 hf hf2
    obtain ⟨k, n, s, An, ns, cn, Ai, is, ci⟩ := v
    obtain ⟨k2, n2, s2, An2, ns2, cn2, Ai2, is2, ci2⟩ := v2
    obtain ⟨X, hX⟩ : ∃ X, cmpJ (LV.mk k n s An ns cn Ai is ci).j (LV.mk k2 n2 s2 An2 ns2 cn2 Ai2 is2 ci2).j = X := ⟨_, rfl⟩
    rw [hX]
    have HD1 := hf
    have HD2 := hf2
    rw [LV.j, FormedP] at HD1 HD2
    have HH1 := Lib.hid HD1.2.1
    have HH2 := Lib.hid HD2.2.1
    clear HD1 HD2
    have HK : Hid (k ≠ k2 → X = cmpI k k2) := Lib.hid fun h => by rw [← hX, LV.j, LV.j, cmpJ_kind h]
    have HLOW : Hid (k = k2 → k < 5 → X = if k = 3 then cmpI n n2 else if k = 4 then cmpS s s2 else 0) := Lib.hid fun h h5 => by
      subst h
      have l1 := (HH1.out.2.2.2.2.2.1 h5).1
      have l2 := (HH2.out.2.2.2.2.2.1 h5).1
      rw [← hX, LV.j, LV.j, List.eq_nil_of_length_eq_zero l1, List.eq_nil_of_length_eq_zero l2, cmpJ_low h5 HH1.out.2.2.2.1 HH2.out.2.2.2.1 HH1.out.2.2.1 HH2.out.2.2.1]
    have HROW : Hid (k = k2 → 5 ≤ k → rowsJ (decide (k = 6)) (LV.js is) (LV.js is2) ns ns2 = X) := Lib.hid fun h h5 => by
      subst h
      rw [← hX, LV.j, LV.j, HH1.out.2.2.1 (by omega), HH2.out.2.2.1 (by omega), cmpJ_rows (HH1.out.2.2.2.1 (by omega)) (HH2.out.2.2.2.1 (by omega))]
    obtain ⟨hk0, hk6⟩ : 0 ≤ k ∧ k ≤ 6 := ⟨HH1.out.1, HH1.out.2.1⟩
    have hss : s.size ≤ 9223372036854775807 := by unfold LV.At at hv; exact hv.2.2.2.2.2.1
    have HNS : Hid (∀ x ∈ ns, x.size ≤ 9223372036854775807) := Lib.hid (by unfold LV.At at hv; exact hv.2.2.2.2.2.2.1)
    have HNL : Hid (k = 6 → ns.length = is.length) := Lib.hid fun h => by
      rw [LV.j, FormedP] at hf
      have := (hf.2.1.2.2.2.2.2.2 (by omega)).2.1 h
      rwa [LV.js_len] at this
    have HNL2 : Hid (k2 = 6 → ns2.length = is2.length) := Lib.hid fun h => by
      rw [LV.j, FormedP] at hf2
      have := (hf2.2.1.2.2.2.2.2.2 (by omega)).2.1 h
      rwa [LV.js_len] at this
    have HFI : Hid (∀ (q : Nat) (h : q < is.length), FormedP (is[q]).j (left - 1)) := Lib.hid fun q h => by
      rw [LV.j] at hf
      exact formed_itemO hf (by rw [LV.js_map]; exact List.mem_map_of_mem (List.getElem_mem h))
    have HFI2 : Hid (∀ (q : Nat) (h : q < is2.length), FormedP (is2[q]).j (left2 - 1)) := Lib.hid fun q h => by
      rw [LV.j] at hf2
      exact formed_itemO hf2 (by rw [LV.js_map]; exact List.mem_map_of_mem (List.getElem_mem h))
    clear hX hf hf2
    obtain ⟨W, hW⟩ : ∃ W, W = (w.alloc (.cells (valBlk k n s An ns cn Ai is ci) 25)).alloc (.cells (valBlk k2 n2 s2 An2 ns2 cn2 Ai2 is2 ci2) 25) := ⟨_, rfl⟩
    have hB0 : Below w.heap.size w W := by rw [hW]; exact ((Below.refl _ _).alloc (Nat.le_refl _) _).alloc (by simp) _
    have hF : Blk W w.heap.size 25 (valBlk k n s An ns cn Ai is ci) := by rw [hW]; exact (Blk.new w _ _).alloc _
    have hG : Blk W (w.heap.size + 1) 25 (valBlk k2 n2 s2 An2 ns2 cn2 Ai2 is2 ci2) := by rw [hW]; exact Blk.second w _ _ _
    have hvW := hv.below hB0 _
    have hvW2 := hv2.below hB0 _
    obtain ⟨hn1, hi1⟩ : (ns.length ≤ cn ∧ cn ≤ 9223372036854775807) ∧ is.length ≤ ci ∧ ci ≤ 9223372036854775807 := by unfold LV.At at hv; exact hv.2.2.2.2.2.2.2
    have hnc : Cells W W.heap.size An (ns.map Value.string) := by have := hvW; unfold LV.At at this; exact this.1
    have hnc2 : Cells W W.heap.size An2 (ns2.map Value.string) := by have := hvW2; unfold LV.At at this; exact this.1
    have HW := Lib.hid hW
    clear hW hv hv2
    obtain ⟨c0, c1, c2, c3, c4⟩ : W.cell? ⟨w.heap.size, 0, none⟩ = some (.int .i64 k) ∧ W.cell? ⟨w.heap.size, 1, none⟩ = some (.int .i64 n) ∧ W.cell? ⟨w.heap.size, 2, none⟩ = some (.string s) ∧ W.cell? ⟨w.heap.size, 3, none⟩ = some (.slice An ns.length cn) ∧ W.cell? ⟨w.heap.size, 4, none⟩ = some (.slice Ai is.length ci) := ⟨hF.cell 0, hF.cell 1, hF.cell 2, hF.cell 3, hF.cell 4⟩
    obtain ⟨d0, d1, d2, d3, d4⟩ : W.cell? ⟨w.heap.size + 1, 0, none⟩ = some (.int .i64 k2) ∧ W.cell? ⟨w.heap.size + 1, 1, none⟩ = some (.int .i64 n2) ∧ W.cell? ⟨w.heap.size + 1, 2, none⟩ = some (.string s2) ∧ W.cell? ⟨w.heap.size + 1, 3, none⟩ = some (.slice An2 ns2.length cn2) ∧ W.cell? ⟨w.heap.size + 1, 4, none⟩ = some (.slice Ai2 is2.length ci2) := ⟨hG.cell 0, hG.cell 1, hG.cell 2, hG.cell 3, hG.cell 4⟩
    have lF := hF.lt
    have lG := hG.lt
    have HLN := Lib.hid (fun w' => lengths_any k k2 w')
    have HTX := Lib.hid (fun w' => texts_any s s2 w' hss)
    show Calls Tryd.prog 25 #[.agg (valBlk k n s An ns cn Ai is ci), .agg (valBlk k2 n2 s2 An2 ns2 cn2 Ai2 is2 ci2)] w _
    by_cases hkk : k = k2
    rotate_left
    · have hb : (k != k2) = true := by rw [bne_iff_ne]; exact hkk
      have HE := Lib.hid (HK.out hkk)
      generalize cmpI k k2 = c at *
      clear hkk
      go_enter Tryd.func25, Tryd.ntmps25
      go_wp2_with fail
      rw [← HW.out]
      refine (HLN.out _).mono ?_
      rintro e w2 ⟨rfl, rfl⟩
      go_wp2
      go_ret
      exact ⟨by rw [HE.out] <;> rfl, hB0⟩
    have HLOW2 := Lib.hid (HLOW.out hkk)
    have HROW2 := Lib.hid (HROW.out hkk)
    clear HK HLOW HROW HLN
    subst hkk
    by_cases h3 : k = 3
    · have HE : Hid (X = cmpI n n2) := Lib.hid (by rw [HLOW2.out (by omega), if_pos h3])
      have HC := cmpI_cases n n2
      generalize cmpI n n2 = c at *
      clear HLOW2 HROW2 HTX
      subst h3
      rcases HC with ⟨h, rfl⟩ | ⟨h, rfl⟩ | ⟨rfl, rfl⟩
      all_goals
        go_enter Tryd.func25, Tryd.ntmps25
        go_wp2
        rw [← HW.out]
        go_ret
        exact ⟨by rw [HE.out] <;> rfl, hB0⟩
    have b3 : (k == 3) = false := by rw [beq_eq_false_iff_ne]; exact h3
    by_cases h4 : k = 4
    · have HE : Hid (X = cmpS s s2) := Lib.hid (by rw [HLOW2.out (by omega), if_neg h3, if_pos h4])
      generalize cmpS s s2 = c at *
      clear HLOW2 HROW2 b3 h3
      subst h4
      go_enter Tryd.func25, Tryd.ntmps25
      go_wp2_with fail
      rw [← HW.out]
      refine (HTX.out _).mono ?_
      rintro e w2 ⟨rfl, hb2⟩
      go_wp2
      go_ret
      exact ⟨by rw [HE.out] <;> rfl, hB0.trans (hb2.mono hB0.size)⟩
    have b4 : (k == 4) = false := by rw [beq_eq_false_iff_ne]; exact h4
    by_cases h5 : k < 5
    · have HE : Hid (X = 0) := Lib.hid (by rw [HLOW2.out h5, if_neg h3, if_neg h4])
      have b5 : (k == 5) = false := by rw [beq_eq_false_iff_ne]; omega
      have b6 : (k == 6) = false := by rw [beq_eq_false_iff_ne]; omega
      clear HLOW2 HROW2 h3 h4 HTX
      go_enter Tryd.func25, Tryd.ntmps25
      go_wp2
      rw [← HW.out]
      go_ret
      exact ⟨by rw [HE.out] <;> rfl, hB0⟩
    have HE := Lib.hid (HROW2.out (by omega))
    clear HLOW2 HROW2 HTX
    have hk56 : k = 5 ∨ k = 6 := by omega
    obtain ⟨ob, hob⟩ : ∃ ob, decide (k = 6) = ob := ⟨_, rfl⟩
    rw [hob] at HE
    have HOB := Lib.hid hob
    clear hob h3 h4 b3 b4 h5 hk0 hk6
    have hbs : ((k == 5) = true) ∨ ((k == 5) = false ∧ (k == 6) = true) := by
      rcases hk56 with h | h
      · exact .inl (by rw [beq_iff_eq]; exact h)
      · exact .inr ⟨by rw [beq_eq_false_iff_ne]; omega, by rw [beq_iff_eq]; exact h⟩
    clear hk56
    rcases hbs with hb5 | ⟨hb5, hb6⟩
    all_goals
     go_enter Tryd.func25, Tryd.ntmps25
     go_wp2
     rw [← HW.out]
     clear c0 c1 c2 c3 c4 d0 d1 d2 d3 d4
     go_loopw [5] (fun i wr => ∃ q : Nat, i = .int .i64 q ∧ q ≤ is.length ∧ q ≤ is2.length ∧ Hid (rowsJ ob ((LV.js is).drop q) ((LV.js is2).drop q) (ns.drop q) (ns2.drop q) = X) ∧ Below W.heap.size W wr) (fun i _ => is.length - (RowKit.intOf i).toNat)
     case atStart => exact ⟨0, rfl, Nat.zero_le _, Nat.zero_le _, HE, Below.refl _ _⟩
     case round =>
       (try clear hb6)
       clear HE hb5
       obtain ⟨q, rfl, hq, hqb, HQ, hB⟩ := hrel
       have hBF := hB0.trans (hB.mono hB0.size)
       have hFr := hF.below hB hF.lt
       have hGr := hG.below hB hG.lt
       have lFr := hFr.lt
       have lGr := hGr.lt
       obtain ⟨c0, c3, c4⟩ : wr.cell? ⟨w.heap.size, 0, none⟩ = some (.int .i64 k) ∧ wr.cell? ⟨w.heap.size, 3, none⟩ = some (.slice An ns.length cn) ∧ wr.cell? ⟨w.heap.size, 4, none⟩ = some (.slice Ai is.length ci) := ⟨hFr.cell 0, hFr.cell 3, hFr.cell 4⟩
       obtain ⟨d3, d4⟩ : wr.cell? ⟨w.heap.size + 1, 3, none⟩ = some (.slice An2 ns2.length cn2) ∧ wr.cell? ⟨w.heap.size + 1, 4, none⟩ = some (.slice Ai2 is2.length ci2) := ⟨hGr.cell 3, hGr.cell 4⟩
       by_cases hlt : q < is.length ∧ q < is2.length
       · obtain ⟨hl1, hl2⟩ := hlt
         have hl1I : (q : Int) < (is.length : Int) := by omega
         have hl2I : (q : Int) < (is2.length : Int) := by omega
         have hq0 : (0 : Int) ≤ (q : Int) := by omega
         have HR := Lib.hid (rows_step ob (is := LV.js is) (is2 := LV.js is2) (q := q) (by rw [LV.js_len]; exact hl1) (by rw [LV.js_len]; exact hl2) ns ns2)
         have HCMP : Hid (∀ w', Below wr.heap.size wr w' → Calls Tryd.prog 25 #[(is[q]).val, (is2[q]).val] w' fun e w'' => e = .returned (.int .i64 (cmpJ (is[q]).j (is2[q]).j)) ∧ Below w'.heap.size w' w'') := Lib.hid fun w' hb' => by
           have hx1 : (is[q]).At W := LV.allAt.1 (by have := hvW; unfold LV.At at this; exact this.2.2.1) _ (List.getElem_mem hl1)
           have hx2 : (is2[q]).At W := LV.allAt.1 (by have := hvW2; unfold LV.At at this; exact this.2.2.1) _ (List.getElem_mem hl2)
           exact ih is[q] is2[q] _ _ w' (by have := LV.item_size (k := k) (n := n) (s := s) (An := An) (ns := ns) (cn := cn) (Ai := Ai) (ci := ci) hl1; omega) ((hx1.below hB _).below hb' _) ((hx2.below hB _).below hb' _) (HFI.out q hl1) (HFI2.out q hl2)
         obtain ⟨b1, o1, hA1, hb1, hit, hcell⟩ := (hvW.below hB _).item hl1
         obtain ⟨b2, o2, hA2, hb2, hit2, hcell2⟩ := (hvW2.below hB _).item hl2
         have HR2 : Hid ((if nameC ob (ns.getD q ⟨#[]⟩) (ns2.getD q ⟨#[]⟩) ≠ 0 then nameC ob (ns.getD q ⟨#[]⟩) (ns2.getD q ⟨#[]⟩) else if cmpJ (is[q]).j (is2[q]).j ≠ 0 then cmpJ (is[q]).j (is2[q]).j else rowsJ ob ((LV.js is).drop (q + 1)) ((LV.js is2).drop (q + 1)) (ns.drop (q + 1)) (ns2.drop (q + 1))) = X) := Lib.hid (by
           rw [← HQ.out, HR.out, LV.js_at is hl1, LV.js_at is2 hl2])
         have HDR := cmpJ_range (is[q]).j (is2[q]).j
         obtain ⟨x, hx⟩ : ∃ x, is[q] = x := ⟨_, rfl⟩
         obtain ⟨y, hy⟩ : ∃ y, is2[q] = y := ⟨_, rfl⟩
         rw [hx] at HCMP hcell HR2 HDR
         rw [hy] at HCMP hcell2 HR2 HDR
         generalize cmpJ x.j y.j = D at *
         obtain ⟨k', n', s', An', ns', cn', Ai', is', ci'⟩ := x
         obtain ⟨k'', n'', s'', An'', ns'', cn'', Ai'', is'', ci''⟩ := y
         subst hA1 hA2
         have HCMP2 : Hid (∀ w', Below wr.heap.size wr w' → Calls Tryd.prog 25 #[.agg #[.int .i64 k', .int .i64 n', .string s', .slice An' ns'.length cn', .slice Ai' is'.length ci'], .agg #[.int .i64 k'', .int .i64 n'', .string s'', .slice An'' ns''.length cn'', .slice Ai'' is''.length ci'']] w' fun e w'' => e = .returned (.int .i64 D) ∧ Below w'.heap.size w' w'') := HCMP
         have HS : Hid (∀ w', Below wr.heap.size wr w' → w'.cell? ⟨w.heap.size, 0, none⟩ = some (.int .i64 k) ∧ w'.cell? ⟨w.heap.size, 4, none⟩ = some (.slice (some ⟨b1, o1, none⟩) is.length ci) ∧ w'.cell? ⟨w.heap.size + 1, 4, none⟩ = some (.slice (some ⟨b2, o2, none⟩) is2.length ci2) ∧ w'.cell? ⟨b1, o1 + q * 5, none⟩ = some (.int .i64 k') ∧ w'.cell? ⟨b1, o1 + q * 5 + 1, none⟩ = some (.int .i64 n') ∧ w'.cell? ⟨b1, o1 + q * 5 + 2, none⟩ = some (.string s') ∧ w'.cell? ⟨b1, o1 + q * 5 + 3, none⟩ = some (.slice An' ns'.length cn') ∧ w'.cell? ⟨b1, o1 + q * 5 + 4, none⟩ = some (.slice Ai' is'.length ci') ∧ w'.cell? ⟨b2, o2 + q * 5, none⟩ = some (.int .i64 k'') ∧ w'.cell? ⟨b2, o2 + q * 5 + 1, none⟩ = some (.int .i64 n'') ∧ w'.cell? ⟨b2, o2 + q * 5 + 2, none⟩ = some (.string s'') ∧ w'.cell? ⟨b2, o2 + q * 5 + 3, none⟩ = some (.slice An'' ns''.length cn'') ∧ w'.cell? ⟨b2, o2 + q * 5 + 4, none⟩ = some (.slice Ai'' is''.length ci'')) := Lib.hid fun w' hw' => ⟨(hw'.cell (p := ⟨w.heap.size, 0, none⟩) (by exact lFr)).trans c0, (hw'.cell (p := ⟨w.heap.size, 4, none⟩) (by exact lFr)).trans c4, (hw'.cell (p := ⟨w.heap.size + 1, 4, none⟩) (by exact lGr)).trans d4, (hw'.cell (p := ⟨b1, o1 + q * 5, none⟩) (by exact hb1)).trans (hcell 0 _ rfl), (hw'.cell (p := ⟨b1, o1 + q * 5 + 1, none⟩) (by exact hb1)).trans (hcell 1 _ rfl), (hw'.cell (p := ⟨b1, o1 + q * 5 + 2, none⟩) (by exact hb1)).trans (hcell 2 _ rfl), (hw'.cell (p := ⟨b1, o1 + q * 5 + 3, none⟩) (by exact hb1)).trans (hcell 3 _ rfl), (hw'.cell (p := ⟨b1, o1 + q * 5 + 4, none⟩) (by exact hb1)).trans (hcell 4 _ rfl), (hw'.cell (p := ⟨b2, o2 + q * 5, none⟩) (by exact hb2)).trans (hcell2 0 _ rfl), (hw'.cell (p := ⟨b2, o2 + q * 5 + 1, none⟩) (by exact hb2)).trans (hcell2 1 _ rfl), (hw'.cell (p := ⟨b2, o2 + q * 5 + 2, none⟩) (by exact hb2)).trans (hcell2 2 _ rfl), (hw'.cell (p := ⟨b2, o2 + q * 5 + 3, none⟩) (by exact hb2)).trans (hcell2 3 _ rfl), (hw'.cell (p := ⟨b2, o2 + q * 5 + 4, none⟩) (by exact hb2)).trans (hcell2 4 _ rfl)⟩
         clear hcell hcell2 hx hy ih HCMP HR HQ hit hit2
         by_cases h6 : k = 6
         · have hob1 : ob = true := by rw [← HOB.out]; exact decide_eq_true h6
           subst hob1
           have hn1q : q < ns.length := by rw [HNL.out h6]; exact hl1
           have hn2q : q < ns2.length := by rw [HNL2.out h6]; exact hl2
           have hn1I : (q : Int) < (ns.length : Int) := by omega
           have hn2I : (q : Int) < (ns2.length : Int) := by omega
           obtain ⟨b3, o3, hA3, hb3, hc3⟩ := (hnc.below hB) q (.string ns[q]) (by rw [List.getElem?_map, List.getElem?_eq_getElem hn1q]; rfl)
           obtain ⟨b4, o4, hA4, hb4, hc4⟩ := (hnc2.below hB) q (.string ns2[q]) (by rw [List.getElem?_map, List.getElem?_eq_getElem hn2q]; rfl)
           have HR3 : Hid (StepIs (cmpS ns[q] ns2[q]) D (rowsJ true ((LV.js is).drop (q + 1)) ((LV.js is2).drop (q + 1)) (ns.drop (q + 1)) (ns2.drop (q + 1))) X) := Lib.hid (by
             unfold StepIs
             rw [← HR2.out, nameC, if_pos rfl, List.getD_eq_getElem?_getD, List.getD_eq_getElem?_getD, List.getElem?_eq_getElem hn1q, List.getElem?_eq_getElem hn2q]
             rfl)
           have HSR := cmpS_range ns[q] ns2[q]
           have HCS := Lib.hid (fun w' => texts_any ns[q] ns2[q] w' (HNS.out _ (List.getElem_mem hn1q)))
           generalize ns[q] = p1 at *
           generalize ns2[q] = p2 at *
           generalize cmpS p1 p2 = E at *
           have hb3r : b3 < wr.heap.size := Nat.lt_of_lt_of_le hb3 hB.size
           have hb4r : b4 < wr.heap.size := Nat.lt_of_lt_of_le hb4 hB.size
           subst hA3 hA4
           have HSN : Hid (∀ w', Below wr.heap.size wr w' → w'.cell? ⟨w.heap.size, 3, none⟩ = some (.slice (some ⟨b3, o3, none⟩) ns.length cn) ∧ w'.cell? ⟨w.heap.size + 1, 3, none⟩ = some (.slice (some ⟨b4, o4, none⟩) ns2.length cn2) ∧ w'.cell? ⟨b3, o3 + q, none⟩ = some (.string p1) ∧ w'.cell? ⟨b4, o4 + q, none⟩ = some (.string p2)) := Lib.hid fun w' hw' => ⟨(hw'.cell (p := ⟨w.heap.size, 3, none⟩) (by exact lFr)).trans c3, (hw'.cell (p := ⟨w.heap.size + 1, 3, none⟩) (by exact lGr)).trans d3, (hw'.cell (p := ⟨b3, o3 + q, none⟩) (by exact hb3r)).trans hc3, (hw'.cell (p := ⟨b4, o4 + q, none⟩) (by exact hb4r)).trans hc4⟩
           clear c3 d3 hc3 hc4 HR2
           subst h6
           go_wp2
           clear c0 c4 d4
           refine region_calm (by kernel_rfl) (by kernel_rfl) ?_
           repeat (first
             | go_big_quiet_skip
             | (go_big_quiet_want
                apply quiet_at
                · intro w' hw'
                  (obtain ⟨z0, z1, z2, z3⟩ := HSN.out _ (by assumption))
                  go_simp
                  first
                    | done
                    | exact rfl
                    | ((go_at_call 39; refine (HCS.out _).mono ?_; rintro e w9 ⟨h1, h2⟩; exact ⟨h1, Below.trans (by assumption) (h2.mono (Below.size (by assumption)))⟩))
                (try simp only [Act.put, List.setIfInBounds_toArray, List.set_cons_zero, List.set_cons_succ])
                go_big_quiet_on))
           refine wpQuiet_nil ?_
           intro w5 hb5
           have hb5a : Below wr.heap.size wr w5 := hb5
           generalize w5 = wa at *
           clear hb5 HSN HCS
           by_cases hE : E = 0
           rotate_left
           · have hE1 : (E == 0) = false := by rw [beq_eq_false_iff_ne]; exact hE
             have hE2 : (E != 0) = true := by rw [bne_iff_ne]; exact hE
             have HE : Hid (X = E) := Lib.hid (HR3.out.name hE)
             clear hE HR3
             go_wp2
             go_ret
             exact ⟨by rw [HE.out] <;> rfl, hBF.trans (hb5a.mono hBF.size)⟩
           subst hE
           have HR4 := Lib.hid HR3.out
           clear HR3
           go_wp2
           have HSA : Hid (∀ w', Calm wa w' → Below wr.heap.size wr w') := Lib.hid fun w' hw' => hb5a.trans (Below.mono hw' hb5a.size)
           refine region_calm (by kernel_rfl) (by kernel_rfl) ?_
           repeat (first
             | go_big_quiet_skip
             | (go_big_quiet_want
                apply quiet_at
                · intro w' hw'
                  (obtain ⟨z0, z1, z2, e0, e1, e2, e3, e4, f0, f1, f2, f3, f4⟩ := HS.out _ (HSA.out _ (by assumption)))
                  go_simp
                  first
                    | done
                    | exact rfl
                    | ((go_at_call 25; refine (HCMP2.out _ (HSA.out _ (by assumption))).mono ?_; rintro e w9 ⟨h1, h2⟩; exact ⟨h1, Below.trans (by assumption) (h2.mono (Below.size (by assumption)))⟩))
                (try simp only [Act.put, List.setIfInBounds_toArray, List.set_cons_zero, List.set_cons_succ])
                go_big_quiet_on))
           refine wpQuiet_nil ?_
           intro w5 hb5
           have hb5d : Below wr.heap.size wr w5 := HSA.out _ hb5
           clear HSA HS HCMP2
           by_cases hD : D = 0
           · subst hD
             have HE : Hid (rowsJ true ((LV.js is).drop (q + 1)) ((LV.js is2).drop (q + 1)) (ns.drop (q + 1)) (ns2.drop (q + 1)) = X) := Lib.hid HR4.out.rest
             clear HR4
             go_wp2
             go_roundw
             case rel => exact ⟨q + 1, by go_num, by omega, by omega, HE, hB.trans (hb5d.mono hB.size)⟩
             case measure => simp [RowKit.intOf]; omega
           · have hD2 : (D != 0) = true := by rw [bne_iff_ne]; exact hD
             have HE : Hid (X = D) := Lib.hid (HR4.out.val hD)
             clear hD HR4
             go_wp2
             go_ret
             exact ⟨by rw [HE.out] <;> rfl, hBF.trans (hb5d.mono hBF.size)⟩
         · have hob1 : ob = false := by rw [← HOB.out]; exact decide_eq_false h6
           subst hob1
           have hk6 : (k == 6) = false := by rw [beq_eq_false_iff_ne]; exact h6
           have HR4 : Hid (StepIs 0 D (rowsJ false ((LV.js is).drop (q + 1)) ((LV.js is2).drop (q + 1)) (ns.drop (q + 1)) (ns2.drop (q + 1))) X) := Lib.hid (by
             unfold StepIs
             rw [← HR2.out]; simp [nameC])
           clear h6 HR2 c3 d3
           go_wp2
           clear c0 c4 d4
           have hb5a : Below wr.heap.size wr wr := Below.refl _ _
           have HSA : Hid (∀ w', Calm wr w' → Below wr.heap.size wr w') := Lib.hid fun w' hw' => hw'
           refine region_calm (by kernel_rfl) (by kernel_rfl) ?_
           repeat (first
             | go_big_quiet_skip
             | (go_big_quiet_want
                apply quiet_at
                · intro w' hw'
                  (obtain ⟨z0, z1, z2, e0, e1, e2, e3, e4, f0, f1, f2, f3, f4⟩ := HS.out _ (HSA.out _ (by assumption)))
                  go_simp
                  first
                    | done
                    | exact rfl
                    | ((go_at_call 25; refine (HCMP2.out _ (HSA.out _ (by assumption))).mono ?_; rintro e w9 ⟨h1, h2⟩; exact ⟨h1, Below.trans (by assumption) (h2.mono (Below.size (by assumption)))⟩))
                (try simp only [Act.put, List.setIfInBounds_toArray, List.set_cons_zero, List.set_cons_succ])
                go_big_quiet_on))
           refine wpQuiet_nil ?_
           intro w5 hb5
           have hb5d : Below wr.heap.size wr w5 := HSA.out _ hb5
           clear HSA HS HCMP2
           by_cases hD : D = 0
           · subst hD
             have HE : Hid (rowsJ false ((LV.js is).drop (q + 1)) ((LV.js is2).drop (q + 1)) (ns.drop (q + 1)) (ns2.drop (q + 1)) = X) := Lib.hid HR4.out.rest
             clear HR4
             go_wp2
             go_roundw
             case rel => exact ⟨q + 1, by go_num, by omega, by omega, HE, hB.trans (hb5d.mono hB.size)⟩
             case measure => simp [RowKit.intOf]; omega
           · have hD2 : (D != 0) = true := by rw [bne_iff_ne]; exact hD
             have HE : Hid (X = D) := Lib.hid (HR4.out.val hD)
             clear hD HR4
             go_wp2
             go_ret
             exact ⟨by rw [HE.out] <;> rfl, hBF.trans (hb5d.mono hBF.size)⟩
       · have HEN : Hid (X = cmpI is.length is2.length) := Lib.hid (by
           have h1 := rows_end ob (is := LV.js is) (is2 := LV.js is2) (q := q) (by rw [LV.js_len]; omega) (by rw [LV.js_len]; omega) (by rw [LV.js_len, LV.js_len]; omega) (ns.drop q) (ns2.drop q)
           rw [HQ.out, LV.js_len, LV.js_len] at h1
           exact h1)
         have HCL := Lib.hid (fun w' => lengths_any (is.length : Int) (is2.length : Int) w')
         generalize cmpI (is.length : Int) (is2.length : Int) = L at *
         by_cases hl1 : q < is.length
         · have hl1I : (q : Int) < (is.length : Int) := by omega
           have hl2I : ¬ (q : Int) < (is2.length : Int) := by omega
           go_wp2_with fail
           refine (HCL.out _).mono ?_
           rintro e w3 ⟨rfl, rfl⟩
           go_wp2
           go_ret
           exact ⟨by rw [HEN.out] <;> rfl, hBF⟩
         · have hl1I : ¬ (q : Int) < (is.length : Int) := by omega
           go_wp2_with fail
           refine (HCL.out _).mono ?_
           rintro e w3 ⟨rfl, rfl⟩
           go_wp2
           go_ret
           exact ⟨by rw [HEN.out] <;> rfl, hBF⟩
end Go.Proofs.YtmobolefijneoaaDoor
