/-
  The contract of munimentref01.Same.
-/
import Derived.Test.YtmobolefijneoaaDoorWb
import Derived.Deep.QuietTactic
import Derived.BigQuiet
import Derived.Deep.RegionHeld3
set_option linter.unusedVariables false
namespace Go.Proofs.YtmobolefijneoaaDoor
open Go.RowKit

/-- It returns whether p is true. -/
def BoolIs (p : Prop) (e : Ending) : Prop := ∃ b : Bool, e = .returned (.bool b) ∧ (b = true ↔ p)
theorem BoolIs.yes {p : Prop} (h : p) : BoolIs p (.returned (.bool true)) := ⟨true, rfl, by simp [h]⟩
theorem BoolIs.no {p : Prop} (h : ¬ p) : BoolIs p (.returned (.bool false)) := ⟨false, rfl, by simp [h]⟩
theorem BoolIs.iff {p q : Prop} {e : Ending} (h : BoolIs p e) (hq : p ↔ q) : BoolIs q e := by
  obtain ⟨b, rfl, hb⟩ := h
  exact ⟨b, rfl, hb.trans hq⟩
theorem toList_inj {a b : ByteArray} : (a.toList == b.toList) = true ↔ a = b := by
  rw [beq_iff_eq, ByteArray.toList_eq, ByteArray.toList_eq]
  constructor
  · intro h
    cases a; cases b; simp only [ByteArray.mk.injEq]; exact Array.ext' h
  · rintro rfl; rfl
theorem take_next {α : Type} {l l' : List α} {q : Nat} (h : l.take q = l'.take q) (h1 : q < l.length) (h2 : q < l'.length) (he : l[q] = l'[q]) : l.take (q + 1) = l'.take (q + 1) := by
  rw [List.take_succ_eq_append_getElem h1, List.take_succ_eq_append_getElem h2, h, he]
theorem LV.js_at (is : List LV) {q : Nat} (h : q < is.length) : (LV.js is)[q]'(by rw [LV.js_map, List.length_map]; exact h) = (is[q]).j := by
  simp [LV.js_map]
theorem LV.js_len (is : List LV) : (LV.js is).length = is.length := by rw [LV.js_map, List.length_map]

set_option maxRecDepth 8000 in
set_option maxHeartbeats 16000000 in
theorem same_any : ∀ (m : Nat) (v v2 : LV) (w : World), v.sz < m → v.At w → v2.At w →
    Calls Tryd.prog 14 #[v.val, v2.val] w fun e w' => BoolIs (v.j = v2.j) e ∧ Below w.heap.size w w' := by
  intro m
  induction m with
  | zero => intro v v2 w hm; omega
  | succ m ih =>
    intro v v2 w hm hv hv2
    obtain ⟨k, n, s, An, ns, cn, Ai, is, ci⟩ := v
    obtain ⟨k2, n2, s2, An2, ns2, cn2, Ai2, is2, ci2⟩ := v2
    have HJ : Hid (∀ p : Prop, p = ((LV.mk k n s An ns cn Ai is ci).j = (LV.mk k2 n2 s2 An2 ns2 cn2 Ai2 is2 ci2).j) → (p ↔ k = k2 ∧ n = n2 ∧ s = s2 ∧ ns = ns2 ∧ LV.js is = LV.js is2)) := Lib.hid fun p hp => by
      rw [hp, LV.j, LV.j, JV.mk.injEq]
    obtain ⟨J, hJ⟩ : ∃ p : Prop, p = ((LV.mk k n s An ns cn Ai is ci).j = (LV.mk k2 n2 s2 An2 ns2 cn2 Ai2 is2 ci2).j) := ⟨_, rfl⟩
    rw [← hJ]
    have HJI := Lib.hid (HJ.out J hJ)
    clear HJ hJ
    obtain ⟨W, hW⟩ : ∃ W, W = (w.alloc (.cells (valBlk k n s An ns cn Ai is ci) 25)).alloc (.cells (valBlk k2 n2 s2 An2 ns2 cn2 Ai2 is2 ci2) 25) := ⟨_, rfl⟩
    have hB0 : Below w.heap.size w W := by rw [hW]; exact ((Below.refl _ _).alloc (Nat.le_refl _) _).alloc (by simp) _
    have hF : Blk W w.heap.size 25 (valBlk k n s An ns cn Ai is ci) := by rw [hW]; exact (Blk.new w _ _).alloc _
    have hG : Blk W (w.heap.size + 1) 25 (valBlk k2 n2 s2 An2 ns2 cn2 Ai2 is2 ci2) := by rw [hW]; exact Blk.second w _ _ _
    have hvW := hv.below hB0 _
    have hvW2 := hv2.below hB0 _
    obtain ⟨hn1, hi1⟩ : (ns.length ≤ cn ∧ cn ≤ 9223372036854775807) ∧ is.length ≤ ci ∧ ci ≤ 9223372036854775807 := by unfold LV.At at hv; exact hv.2.2.2.2.2.2.2
    have hnc : Cells W W.heap.size An (ns.map Value.string) := by have := hvW; unfold LV.At at this; exact this.1
    have hnc2 : Cells W W.heap.size An2 (ns2.map Value.string) := by have := hvW2; unfold LV.At at this; exact this.1
    have HW := Lib.hid hW
    clear hW hv hv2
    obtain ⟨c0, c1, c2, c3, c4⟩ : W.cell? ⟨w.heap.size, 0, none⟩ = some (.int .i64 k) ∧ W.cell? ⟨w.heap.size, 1, none⟩ = some (.int .i64 n) ∧ W.cell? ⟨w.heap.size, 2, none⟩ = some (.string s) ∧ W.cell? ⟨w.heap.size, 3, none⟩ = some (.slice An ns.length cn) ∧ W.cell? ⟨w.heap.size, 4, none⟩ = some (.slice Ai is.length ci) := ⟨hF.cell 0, hF.cell 1, hF.cell 2, hF.cell 3, hF.cell 4⟩
    obtain ⟨d0, d1, d2, d3, d4⟩ : W.cell? ⟨w.heap.size + 1, 0, none⟩ = some (.int .i64 k2) ∧ W.cell? ⟨w.heap.size + 1, 1, none⟩ = some (.int .i64 n2) ∧ W.cell? ⟨w.heap.size + 1, 2, none⟩ = some (.string s2) ∧ W.cell? ⟨w.heap.size + 1, 3, none⟩ = some (.slice An2 ns2.length cn2) ∧ W.cell? ⟨w.heap.size + 1, 4, none⟩ = some (.slice Ai2 is2.length ci2) := ⟨hG.cell 0, hG.cell 1, hG.cell 2, hG.cell 3, hG.cell 4⟩
    show Calls Tryd.prog 14 #[.agg (valBlk k n s An ns cn Ai is ci), .agg (valBlk k2 n2 s2 An2 ns2 cn2 Ai2 is2 ci2)] w _
    by_cases g0 : k = k2
    rotate_left
    · have b0 : (k != k2) = true := by simp; omega
      have HNO : Hid (¬ J) := Lib.hid fun hh => g0 (by have h := HJI.out.1 hh; exact h.1)
      clear g0
      go_enter Tryd.func14, Tryd.ntmps14
      go_wp2
      rw [← HW.out]
      go_ret
      exact ⟨BoolIs.no HNO.out, hB0⟩
    have b0 : (k != k2) = false := by simp; omega
    have HG0 := Lib.hid g0
    clear g0
    by_cases g1 : n = n2
    rotate_left
    · have b1 : (n != n2) = true := by simp; omega
      have HNO : Hid (¬ J) := Lib.hid fun hh => g1 (by have h := HJI.out.1 hh; exact h.2.1)
      clear g1
      go_enter Tryd.func14, Tryd.ntmps14
      go_wp2
      rw [← HW.out]
      go_ret
      exact ⟨BoolIs.no HNO.out, hB0⟩
    have b1 : (n != n2) = false := by simp; omega
    have HG1 := Lib.hid g1
    clear g1
    by_cases g2 : s = s2
    rotate_left
    · have b2 : (!(s.toList == s2.toList)) = true := by rw [Bool.not_eq_eq_eq_not, Bool.not_true, Bool.eq_false_iff]; exact fun h => g2 (toList_inj.1 h)
      have HNO : Hid (¬ J) := Lib.hid fun hh => g2 (by have h := HJI.out.1 hh; exact h.2.2.1)
      clear g2
      go_enter Tryd.func14, Tryd.ntmps14
      go_wp2
      rw [← HW.out]
      go_ret
      exact ⟨BoolIs.no HNO.out, hB0⟩
    have b2 : (!(s.toList == s2.toList)) = false := by rw [Bool.not_eq_eq_eq_not, Bool.not_false]; exact toList_inj.2 g2
    have HG2 := Lib.hid g2
    clear g2
    by_cases g3 : ns.length = ns2.length
    rotate_left
    · have b3 : ((ns.length : Int) != (ns2.length : Int)) = true := by simp; omega
      have HNO : Hid (¬ J) := Lib.hid fun hh => g3 (by have h := HJI.out.1 hh; exact congrArg List.length h.2.2.2.1)
      clear g3
      go_enter Tryd.func14, Tryd.ntmps14
      go_wp2
      rw [← HW.out]
      go_ret
      exact ⟨BoolIs.no HNO.out, hB0⟩
    have b3 : ((ns.length : Int) != (ns2.length : Int)) = false := by simp; omega
    have HG3 := Lib.hid g3
    clear g3
    by_cases g4 : is.length = is2.length
    rotate_left
    · have b4 : ((is.length : Int) != (is2.length : Int)) = true := by simp; omega
      have HNO : Hid (¬ J) := Lib.hid fun hh => g4 (by have h := HJI.out.1 hh; exact (by have := congrArg List.length h.2.2.2.2; rwa [LV.js_len, LV.js_len] at this))
      clear g4
      go_enter Tryd.func14, Tryd.ntmps14
      go_wp2
      rw [← HW.out]
      go_ret
      exact ⟨BoolIs.no HNO.out, hB0⟩
    have b4 : ((is.length : Int) != (is2.length : Int)) = false := by simp; omega
    have HG4 := Lib.hid g4
    clear g4
    go_enter Tryd.func14, Tryd.ntmps14
    go_wp2
    rw [← HW.out]
    go_loopw [5] (fun i wr => ∃ q n : Nat, i = .int .i64 q ∧ q ≤ ns.length ∧ Hid (ns.take q = ns2.take q) ∧ wr = W.drewN n) (fun i _ => ns.length - (RowKit.intOf i).toNat)
    case atStart => exact ⟨0, 0, rfl, Nat.zero_le _, Lib.hid rfl, rfl⟩
    case round =>
      obtain ⟨q, nn, rfl, hq, HT, rfl⟩ := hrel
      by_cases hlt : q < ns.length
      · have hqI : (q : Int) < (ns.length : Int) := by omega
        have hlt2 : q < ns2.length := by have := HG3.out; omega
        have hqI2 : (q : Int) < (ns2.length : Int) := by omega
        have hq0 : (0 : Int) ≤ (q : Int) := by omega
        obtain ⟨b1, o1, rfl, _, hca⟩ := hnc q (.string ns[q]) (by rw [List.getElem?_map, List.getElem?_eq_getElem hlt]; rfl)
        obtain ⟨b2, o2, rfl, _, hcb⟩ := hnc2 q (.string ns2[q]) (by rw [List.getElem?_map, List.getElem?_eq_getElem hlt2]; rfl)
        by_cases hx : ns[q] = ns2[q]
        · have hbx : (!((ns[q]).toList == (ns2[q]).toList)) = false := by rw [Bool.not_eq_eq_eq_not, Bool.not_false]; exact toList_inj.2 hx
          have HT2 := Lib.hid (take_next HT.out hlt hlt2 hx)
          clear hx
          generalize ns[q] = x at *
          generalize ns2[q] = y at *
          go_wp2
          go_quiet (fail)
          go_wp2
          go_roundw
          case rel => exact ⟨q + 1, _, by go_num, by omega, HT2, rfl⟩
          case measure => simp [RowKit.intOf]; omega
        · have hbx : (!((ns[q]).toList == (ns2[q]).toList)) = true := by rw [Bool.not_eq_eq_eq_not, Bool.not_true, Bool.eq_false_iff]; exact fun h => hx (toList_inj.1 h)
          have HNO : Hid (¬ J) := Lib.hid fun hh => hx (by have h := (HJI.out.1 hh).2.2.2.1; subst h; rfl)
          clear hx
          generalize ns[q] = x at *
          generalize ns2[q] = y at *
          go_wp2
          go_quiet (fail)
          go_wp2
          go_ret
          exact ⟨BoolIs.no HNO.out, below_drewN (below_drewN hB0 _) _⟩
      · have hqI : ¬ (q : Int) < (ns.length : Int) := by omega
        have HNS : Hid (ns = ns2) := Lib.hid (by
          have h1 := HT.out
          have h2 := HG3.out
          rwa [List.take_of_length_le (by omega), List.take_of_length_le (by omega)] at h1)
        go_wp2
        go_loopw [6] (fun i wr => ∃ q : Nat, i = .int .i64 q ∧ q ≤ is.length ∧ Hid ((LV.js is).take q = (LV.js is2).take q) ∧ Below W.heap.size W wr) (fun i _ => is.length - (RowKit.intOf i).toNat)
        case atStart => exact ⟨0, rfl, Nat.zero_le _, Lib.hid rfl, below_drewN (Below.refl _ _) _⟩
        case round =>
          clear hqI hlt HT hq c0 c1 c2 c3 c4 d0 d1 d2 d3 d4
          obtain ⟨q, rfl, hq, HT, hB⟩ := hrel
          have hFr := hF.below hB hF.lt
          have hGr := hG.below hB hG.lt
          have c4 : wr.cell? ⟨w.heap.size, 4, none⟩ = some (.slice Ai is.length ci) := hFr.cell 4
          have d4 : wr.cell? ⟨w.heap.size + 1, 4, none⟩ = some (.slice Ai2 is2.length ci2) := hGr.cell 4
          have lF := hFr.lt
          have lG := hGr.lt
          have hBF := hB0.trans (hB.mono hB0.size)
          by_cases hlt : q < is.length
          · have hqI : (q : Int) < (is.length : Int) := by omega
            have hlt2 : q < is2.length := by have := HG4.out; omega
            have hqI2 : (q : Int) < (is2.length : Int) := by omega
            have hq0 : (0 : Int) ≤ (q : Int) := by omega
            obtain ⟨b1, o1, rfl, hb1, hit, hcell⟩ := (hvW.below hB _).item hlt
            obtain ⟨b2, o2, rfl, hb2, hit2, hcell2⟩ := (hvW2.below hB _).item hlt2
            have HS : Hid (∀ w', Below wr.heap.size wr w' → Calls Tryd.prog 14 #[(is[q]).val, (is2[q]).val] w' fun e w'' => BoolIs ((is[q]).j = (is2[q]).j) e ∧ Below w'.heap.size w' w'') := Lib.hid fun w' hb' => ih is[q] is2[q] w' (by have := LV.item_size (k := k) (n := n) (s := s) (An := An) (ns := ns) (cn := cn) (Ai := some ⟨b1, o1, none⟩) (ci := ci) hlt; omega) (hit.below hb' _) (hit2.below hb' _)
            have HNX : Hid (is[q].j = is2[q].j → (LV.js is).take (q + 1) = (LV.js is2).take (q + 1)) := Lib.hid fun he => take_next HT.out (by rw [LV.js_len]; exact hlt) (by rw [LV.js_len]; exact hlt2) (by rw [LV.js_at is hlt, LV.js_at is2 hlt2]; exact he)
            have HNO : Hid (is[q].j ≠ is2[q].j → ¬ J) := Lib.hid fun hne hh => hne (by
              have h := (HJI.out.1 hh).2.2.2.2
              rw [← LV.js_at is hlt, ← LV.js_at is2 hlt2]
              simp only [h])
            obtain ⟨x, hx⟩ : ∃ x, is[q] = x := ⟨_, rfl⟩
            obtain ⟨y, hy⟩ : ∃ y, is2[q] = y := ⟨_, rfl⟩
            rw [hx] at HS hcell HNX HNO
            rw [hy] at HS hcell2 HNX HNO
            obtain ⟨k', n', s', An', ns', cn', Ai', is', ci'⟩ := x
            obtain ⟨k'', n'', s'', An'', ns'', cn'', Ai'', is'', ci''⟩ := y
            have e0 : wr.cell? ⟨b1, o1 + q * 5, none⟩ = some (.int .i64 k') := hcell 0 _ rfl
            have e1 : wr.cell? ⟨b1, o1 + q * 5 + 1, none⟩ = some (.int .i64 n') := hcell 1 _ rfl
            have e2 : wr.cell? ⟨b1, o1 + q * 5 + 2, none⟩ = some (.string s') := hcell 2 _ rfl
            have e3 : wr.cell? ⟨b1, o1 + q * 5 + 3, none⟩ = some (.slice An' ns'.length cn') := hcell 3 _ rfl
            have e4 : wr.cell? ⟨b1, o1 + q * 5 + 4, none⟩ = some (.slice Ai' is'.length ci') := hcell 4 _ rfl
            have f0 : wr.cell? ⟨b2, o2 + q * 5, none⟩ = some (.int .i64 k'') := hcell2 0 _ rfl
            have f1 : wr.cell? ⟨b2, o2 + q * 5 + 1, none⟩ = some (.int .i64 n'') := hcell2 1 _ rfl
            have f2 : wr.cell? ⟨b2, o2 + q * 5 + 2, none⟩ = some (.string s'') := hcell2 2 _ rfl
            have f3 : wr.cell? ⟨b2, o2 + q * 5 + 3, none⟩ = some (.slice An'' ns''.length cn'') := hcell2 3 _ rfl
            have f4 : wr.cell? ⟨b2, o2 + q * 5 + 4, none⟩ = some (.slice Ai'' is''.length ci'') := hcell2 4 _ rfl
            clear hcell hcell2 hx hy ih
            obtain ⟨P, hP⟩ : ∃ P : Prop, P = ((LV.mk k' n' s' An' ns' cn' Ai' is' ci').j = (LV.mk k'' n'' s'' An'' ns'' cn'' Ai'' is'' ci'').j) := ⟨_, rfl⟩
            rw [← hP] at HNX
            have HNO2 : Hid (¬ P → ¬ J) := Lib.hid fun hn => HNO.out (by rw [hP] at hn; exact hn)
            have HS2 : Hid (∀ w', Below wr.heap.size wr w' → Calls Tryd.prog 14 #[.agg #[.int .i64 k', .int .i64 n', .string s', .slice An' ns'.length cn', .slice Ai' is'.length ci'], .agg #[.int .i64 k'', .int .i64 n'', .string s'', .slice An'' ns''.length cn'', .slice Ai'' is''.length ci'']] w' fun e w'' => BoolIs P e ∧ Below w'.heap.size w' w'') := Lib.hid fun w' hb' => by rw [hP]; exact HS.out w' hb'
            clear HS HNO hP
            go_wp2
            go_region_held3 (fun w' => w'.cell? ⟨w.heap.size, 4, none⟩ = some (.slice (some ⟨b1, o1, none⟩) is.length ci) ∧ w'.cell? ⟨w.heap.size + 1, 4, none⟩ = some (.slice (some ⟨b2, o2, none⟩) is2.length ci2) ∧ w'.cell? ⟨b1, o1 + q * 5, none⟩ = some (.int .i64 k') ∧ w'.cell? ⟨b1, o1 + q * 5 + 1, none⟩ = some (.int .i64 n') ∧ w'.cell? ⟨b1, o1 + q * 5 + 2, none⟩ = some (.string s') ∧ w'.cell? ⟨b1, o1 + q * 5 + 3, none⟩ = some (.slice An' ns'.length cn') ∧ w'.cell? ⟨b1, o1 + q * 5 + 4, none⟩ = some (.slice Ai' is'.length ci') ∧ w'.cell? ⟨b2, o2 + q * 5, none⟩ = some (.int .i64 k'') ∧ w'.cell? ⟨b2, o2 + q * 5 + 1, none⟩ = some (.int .i64 n'') ∧ w'.cell? ⟨b2, o2 + q * 5 + 2, none⟩ = some (.string s'') ∧ w'.cell? ⟨b2, o2 + q * 5 + 3, none⟩ = some (.slice An'' ns''.length cn'') ∧ w'.cell? ⟨b2, o2 + q * 5 + 4, none⟩ = some (.slice Ai'' is''.length ci'')) (go_keep)
              (first | (go_at_call 14; refine (HS2.out _ (by exact (Below.refl _ _).drew)).mono ?_; rintro e w5 ⟨⟨bb, rfl, hbb⟩, hb5⟩; have hb5d := ((Below.refl wr.heap.size wr).drew).trans hb5; have z0 : w5.cell? ⟨w.heap.size, 4, none⟩ = some (.slice (some ⟨b1, o1, none⟩) is.length ci) := (hb5d.cell (p := ⟨w.heap.size, 4, none⟩) (by exact lF)).trans c4; have z1 : w5.cell? ⟨w.heap.size + 1, 4, none⟩ = some (.slice (some ⟨b2, o2, none⟩) is2.length ci2) := (hb5d.cell (p := ⟨w.heap.size + 1, 4, none⟩) (by exact lG)).trans d4; have z2 : w5.cell? ⟨b1, o1 + q * 5, none⟩ = some (.int .i64 k') := (hb5d.cell (p := ⟨b1, o1 + q * 5, none⟩) (by exact hb1)).trans e0; have z3 : w5.cell? ⟨b1, o1 + q * 5 + 1, none⟩ = some (.int .i64 n') := (hb5d.cell (p := ⟨b1, o1 + q * 5 + 1, none⟩) (by exact hb1)).trans e1; have z4 : w5.cell? ⟨b1, o1 + q * 5 + 2, none⟩ = some (.string s') := (hb5d.cell (p := ⟨b1, o1 + q * 5 + 2, none⟩) (by exact hb1)).trans e2; have z5 : w5.cell? ⟨b1, o1 + q * 5 + 3, none⟩ = some (.slice An' ns'.length cn') := (hb5d.cell (p := ⟨b1, o1 + q * 5 + 3, none⟩) (by exact hb1)).trans e3; have z6 : w5.cell? ⟨b1, o1 + q * 5 + 4, none⟩ = some (.slice Ai' is'.length ci') := (hb5d.cell (p := ⟨b1, o1 + q * 5 + 4, none⟩) (by exact hb1)).trans e4; have z7 : w5.cell? ⟨b2, o2 + q * 5, none⟩ = some (.int .i64 k'') := (hb5d.cell (p := ⟨b2, o2 + q * 5, none⟩) (by exact hb2)).trans f0; have z8 : w5.cell? ⟨b2, o2 + q * 5 + 1, none⟩ = some (.int .i64 n'') := (hb5d.cell (p := ⟨b2, o2 + q * 5 + 1, none⟩) (by exact hb2)).trans f1; have z9 : w5.cell? ⟨b2, o2 + q * 5 + 2, none⟩ = some (.string s'') := (hb5d.cell (p := ⟨b2, o2 + q * 5 + 2, none⟩) (by exact hb2)).trans f2; have z10 : w5.cell? ⟨b2, o2 + q * 5 + 3, none⟩ = some (.slice An'' ns''.length cn'') := (hb5d.cell (p := ⟨b2, o2 + q * 5 + 3, none⟩) (by exact hb2)).trans f3; have z11 : w5.cell? ⟨b2, o2 + q * 5 + 4, none⟩ = some (.slice Ai'' is''.length ci'') := (hb5d.cell (p := ⟨b2, o2 + q * 5 + 4, none⟩) (by exact hb2)).trans f4))
            all_goals
              cases bb with
              | false =>
                go_wp2
                go_ret
                exact ⟨BoolIs.no (HNO2.out fun h => by have := hbb.2 h; cases this), hBF.trans (hb5d.mono hBF.size)⟩
              | true =>
                go_wp2
                go_roundw
                case rel => exact ⟨q + 1, by go_num, by omega, Lib.hid (HNX.out (hbb.1 rfl)), hB.trans (hb5d.mono hB.size)⟩
                case measure => simp [RowKit.intOf]; omega
          · have hqI : ¬ (q : Int) < (is.length : Int) := by omega
            have HY : Hid J := Lib.hid (HJI.out.2 ⟨HG0.out, HG1.out, HG2.out, HNS.out, by
              have h1 := HT.out
              have h2 := HG4.out
              rwa [List.take_of_length_le (by rw [LV.js_len]; omega), List.take_of_length_le (by rw [LV.js_len]; omega)] at h1⟩)
            go_wp2
            go_ret
            exact ⟨BoolIs.yes HY.out, hBF⟩
end Go.Proofs.YtmobolefijneoaaDoor
