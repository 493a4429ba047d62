/-
  The contracts of json.formed, json.Formed.
-/
import Derived.Test.YtmobolefijneoaaDoorWd
import Derived.LoopTactic
import Derived.Deep.Cut
import Derived.Deep.DeepCutAuto
set_option linter.unusedVariables false
namespace Go.Proofs.YtmobolefijneoaaDoor
open Go.RowKit

def IndexRes (is : List LV) (P : LV → Prop) (e : Ending) : Prop := ∃ r : Int, e = .returned (.int .i64 r) ∧ -1 ≤ r ∧ r ≤ 9223372036854775807 ∧ (0 ≤ r ↔ ∃ x ∈ is, ¬ P x)
set_option maxHeartbeats 4000000 in
theorem index_any (k n : Int) (s : ByteArray) (An : Option Addr) (ns : List ByteArray) (cn : Nat) (Ai : Option Addr) (is : List LV) (ci : Nat) (g : Nat) (P : LV → Prop) (w : World) (hv : (LV.mk k n s An ns cn Ai is ci).At w)
    (hf : ∀ (q : Nat) (h : q < is.length) (w' : World), Below w.heap.size w w' → Calls Tryd.prog 42 #[(is[q]).val, .pointer (some ⟨g, 0, none⟩)] w' fun e w'' => BoolIs (¬ P is[q]) e ∧ Below w'.heap.size w' w'') :
    Calls Tryd.prog 51 #[.slice Ai is.length ci, .func (.func 42) #[] #[.pointer (some ⟨g, 0, none⟩)]] w fun e w' => IndexRes is P e ∧ Below w.heap.size w w' := by
  have HF := Lib.hid hf
  have HV := Lib.hid hv
  have hci : is.length ≤ ci ∧ ci ≤ 9223372036854775807 := by unfold LV.At at hv; exact hv.2.2.2.2.2.2.2.2
  clear hf hv
  go_enter Tryd.func51, Tryd.ntmps51
  go_wp2
  go_loopw [8] (fun i wr => ∃ q : Nat, i = .int .i64 q ∧ q ≤ is.length ∧ Hid (∀ j (h : j < is.length), j < q → P is[j]) ∧ Below w.heap.size w wr) (fun i _ => is.length - (RowKit.intOf i).toNat)
  case atStart => exact ⟨0, rfl, Nat.zero_le _, Lib.hid fun j _ h => absurd h (by omega), Below.refl _ _⟩
  case round =>
    obtain ⟨q, rfl, hq, HQ, hB⟩ := hrel
    by_cases hlt : q < is.length
    · have hqI : (q : Int) < (is.length : Int) := by omega
      obtain ⟨b, off, rfl, hb, hit, hcell⟩ := (HV.out.below hB _).item hlt
      have HC := Lib.hid (HF.out q hlt wr hB)
      have HP : Hid (∀ x, is[q] = x → ¬ P x → ∃ x ∈ is, ¬ P x) := Lib.hid fun x hx hn => ⟨x, by rw [← hx]; exact List.getElem_mem hlt, hn⟩
      have HN : Hid (∀ x, is[q] = x → P x → ∀ j (h : j < is.length), j < q + 1 → P is[j]) := Lib.hid fun x hx hn j h hj => by
        rcases Nat.lt_or_ge j q with h1 | h1
        · exact HQ.out j h h1
        · obtain rfl : j = q := by omega
          rw [hx]; exact hn
      obtain ⟨x, hx⟩ : ∃ x, is[q] = x := ⟨_, rfl⟩
      have HP1 := Lib.hid (HP.out x hx)
      have HN1 := Lib.hid (HN.out x hx)
      rw [hx] at HC hcell
      obtain ⟨k', n', s', An', ns', cn', Ai', is', ci'⟩ := x
      have d0 : wr.cell? ⟨b, off + q * 5, none⟩ = some (.int .i64 k') := hcell 0 _ rfl
      have d1 : wr.cell? ⟨b, off + q * 5 + 1, none⟩ = some (.int .i64 n') := hcell 1 _ rfl
      have d2 : wr.cell? ⟨b, off + q * 5 + 2, none⟩ = some (.string s') := hcell 2 _ rfl
      have d3 : wr.cell? ⟨b, off + q * 5 + 3, none⟩ = some (.slice An' ns'.length cn') := hcell 3 _ rfl
      have d4 : wr.cell? ⟨b, off + q * 5 + 4, none⟩ = some (.slice Ai' is'.length ci') := hcell 4 _ rfl
      clear hcell hx HP HN
      obtain ⟨p, hp⟩ : ∃ p, p = P (.mk k' n' s' An' ns' cn' Ai' is' ci') := ⟨_, rfl⟩
      rw [← hp] at HC HP1 HN1
      clear hp
      go_wp2_with fail
      refine HC.out.mono ?_
      rintro e w2 ⟨⟨bb, rfl, hbb⟩, hb2⟩
      have HBB := Lib.hid hbb
      clear hbb
      cases bb with
      | true =>
        have HB1 := Lib.hid (HBB.out.1 rfl)
        clear HBB
        go_wp2
        go_ret
        exact ⟨⟨q, rfl, by omega, by omega, ⟨fun _ => HP1.out HB1.out, fun _ => by omega⟩⟩, hB.trans (hb2.mono hB.size)⟩
      | false =>
        have HB1 : Hid (¬ ¬ p) := Lib.hid (fun h => by have := HBB.out.2 h; cases this)
        clear HBB
        go_wp2
        go_roundw
        case rel => exact ⟨q + 1, by go_num, by omega, Lib.hid (HN1.out (Classical.byContradiction HB1.out)), hB.trans (hb2.mono hB.size)⟩
        case measure => simp [RowKit.intOf]; omega
    · have hqI : ¬ (q : Int) < (is.length : Int) := by omega
      go_wp2
      go_ret
      refine ⟨⟨-1, rfl, by omega, by omega, ⟨fun h => absurd h (by omega), fun ⟨x, hx, hn⟩ => ?_⟩⟩, hB⟩
      obtain ⟨j, hj, rfl⟩ := List.mem_iff_getElem.1 hx
      exact absurd (HQ.out j hj (by omega)) hn
set_option maxHeartbeats 4000000 in
theorem contains_any (k n : Int) (s : ByteArray) (An : Option Addr) (ns : List ByteArray) (cn : Nat) (Ai : Option Addr) (is : List LV) (ci : Nat) (g : Nat) (P : LV → Prop) (w : World) (hv : (LV.mk k n s An ns cn Ai is ci).At w)
    (hf : ∀ (q : Nat) (h : q < is.length) (w' : World), Below w.heap.size w w' → Calls Tryd.prog 42 #[(is[q]).val, .pointer (some ⟨g, 0, none⟩)] w' fun e w'' => BoolIs (¬ P is[q]) e ∧ Below w'.heap.size w' w'') :
    Calls Tryd.prog 41 #[.slice Ai is.length ci, .func (.func 42) #[] #[.pointer (some ⟨g, 0, none⟩)]] w fun e w' => BoolIs (∃ x ∈ is, ¬ P x) e ∧ Below w.heap.size w w' := by
  have HC := Lib.hid (index_any k n s An ns cn Ai is ci g P w hv hf)
  clear hf hv
  go_enter Tryd.func41, Tryd.ntmps41
  go_wp2_with fail
  refine HC.out.mono ?_
  rintro e w2 ⟨⟨r, rfl, h1, h2, h3⟩, hb2⟩
  have HI := Lib.hid h3
  clear h3 HC
  go_wp2
  go_ret
  exact ⟨⟨decide (0 ≤ r), rfl, decide_eq_true_iff.trans HI.out⟩, hb2⟩

/-- What is asked first. -/
def Head1 (left : Nat) (k n : Int) (s : ByteArray) : Prop := left ≠ 0 ∧ 0 ≤ k ∧ k ≤ 6 ∧ (k ≠ 3 → n = 0) ∧ (k ≠ 4 → s.toList = []) ∧ TextP s
def CutRes (left : Nat) (k n : Int) (s : ByteArray) (c : Value) : Prop := ∃ b : Bool, c = .bool b ∧ (b = false ↔ Head1 left k n s)
theorem CutRes.bad {left : Nat} {k n : Int} {s : ByteArray} (h : ¬ Head1 left k n s) : CutRes left k n s (.bool true) := ⟨true, rfl, by simp [h]⟩
theorem CutRes.of {left : Nat} {k n : Int} {s : ByteArray} {b : Bool} (h : TextP s → Head1 left k n s) (hb : b = true ↔ TextP s) : CutRes left k n s (.bool !b) := ⟨!b, rfl, by
  cases b with
  | true => simp; exact h (hb.1 rfl)
  | false => simp; exact fun g => by have := hb.2 g.2.2.2.2.2; cases this⟩

set_option maxRecDepth 8000 in
set_option maxHeartbeats 16000000 in
theorem formed_any : ∀ (m : Nat) (v : LV) (left : Nat) (w : World), v.sz < m → v.At w → left ≤ 100 → Tabs w →
    Calls Tryd.prog 26 #[v.val, .int .i64 left] w fun e w' => BoolIs (FormedP v.j left) e ∧ Below w.heap.size w w' := by
  intro m
  induction m with
  | zero => intro v left w hm; omega
  | succ m ih =>
    intro v left w hm hv hl hT
    obtain ⟨k, n, s, An, ns, cn, Ai, is, ci⟩ := v
    obtain ⟨W, hW⟩ : ∃ W, W = (w.alloc (.cells (valBlk k n s An ns cn Ai is ci) 25)).alloc (.cells #[.int .i64 left] 3) := ⟨_, rfl⟩
    have hB0 : Below w.heap.size w W := by rw [hW]; exact ((Below.refl _ _).alloc (Nat.le_refl _) _).alloc (by simp) _
    have hF : Blk W w.heap.size 25 (valBlk k n s An ns cn Ai is ci) := by rw [hW]; exact (Blk.new w _ _).alloc _
    have hG : Blk W (w.heap.size + 1) 3 #[.int .i64 left] := by rw [hW]; exact Blk.second w _ _ _
    have hvW := hv.below hB0 _
    have hTW := hT.below hB0
    obtain ⟨⟨hk1, hk2⟩, _, hss, hns, hn1, hi1⟩ : (-9223372036854775808 ≤ k ∧ k ≤ 9223372036854775807) ∧ (-9223372036854775808 ≤ n ∧ n ≤ 9223372036854775807) ∧ s.size ≤ 9223372036854775807 ∧ (∀ x ∈ ns, x.size ≤ 9223372036854775807) ∧ (ns.length ≤ cn ∧ cn ≤ 9223372036854775807) ∧ is.length ≤ ci ∧ ci ≤ 9223372036854775807 := by unfold LV.At at hv; exact hv.2.2.2
    have hnc : Cells W W.heap.size An (ns.map Value.string) := by have := hvW; unfold LV.At at this; exact this.1
    have HNS := Lib.hid hns
    have HTX := Lib.hid (text_any s W hss hTW)
    obtain ⟨J, hJ⟩ : ∃ p : Prop, p = FormedP (LV.mk k n s An ns cn Ai is ci).j left := ⟨_, rfl⟩
    rw [← hJ]
    have HJ : Hid (J ↔ left ≠ 0 ∧ HeadOK k n s ns.length is.length ∧ NamesOK ns ∧ ∀ x ∈ is, FormedP x.j (left - 1)) := Lib.hid (by
      rw [hJ, LV.j, FormedP, formedAll_iff, LV.js_len, LV.js_map]
      simp)
    have HCL : Hid (∀ (q : Nat) (h : q < is.length) (w' : World), left ≠ 0 → Below W.heap.size W w' → Calls Tryd.prog 42 #[(is[q]).val, .pointer (some ⟨w.heap.size + 1, 0, none⟩)] w' fun e w'' => BoolIs (¬ FormedP (is[q]).j (left - 1)) e ∧ Below w'.heap.size w' w'') := Lib.hid fun q h w' hl0 hB => by
      have hvx : (is[q]).At W := LV.allAt.1 (by have := hvW; unfold LV.At at this; exact this.2.2.1) _ (List.getElem_mem h)
      have hsz : (is[q]).sz < m := by
        have := LV.item_size (k := k) (n := n) (s := s) (An := An) (ns := ns) (cn := cn) (Ai := Ai) (ci := ci) h
        omega
      have hT' := hTW.below hB
      have hvx' := hvx.below hB _
      have hG' := hG.below hB hG.lt
      have hgl := hG'.lt
      have hG0 : w'.cell? ⟨w.heap.size + 1, 0, none⟩ = some (.int .i64 left) := hG'.cell 0
      generalize is[q] = x at *
      obtain ⟨k', n', s', An', ns', cn', Ai', is', ci'⟩ := x
      obtain ⟨W', hW'⟩ : ∃ W', W' = w'.alloc (.cells (valBlk k' n' s' An' ns' cn' Ai' is' ci') 25) := ⟨_, rfl⟩
      have hB' : Below w'.heap.size w' W' := by rw [hW']; exact (Below.refl _ _).alloc (Nat.le_refl _) _
      have HC := Lib.hid (ih (.mk k' n' s' An' ns' cn' Ai' is' ci') (left - 1) W' hsz (hvx'.below hB' _) (by omega) (hT'.below hB'))
      have hlm : (left : Int) - 1 = ((left - 1 : Nat) : Int) := by omega
      have hG1 : W'.cell? ⟨w.heap.size + 1, 0, none⟩ = some (.int .i64 left) := ((hG'.below hB' hgl)).cell 0
      have HW' := Lib.hid hW'
      generalize FormedP (LV.mk k' n' s' An' ns' cn' Ai' is' ci').j (left - 1) = p at *
      clear hW' hvx hvx' hT' hT hTW hvW hv hnc HTX HNS HJ hJ hns ih
      show Calls Tryd.prog 42 #[.agg (valBlk k' n' s' An' ns' cn' Ai' is' ci'), .pointer (some ⟨w.heap.size + 1, 0, none⟩)] w' _
      go_enter Tryd.func42, Tryd.ntmps42
      go_wp2_with fail
      rw [← HW'.out]
      generalize left - 1 = left' at *
      refine HC.out.mono ?_
      rintro e w2 ⟨⟨bb, rfl, hbb⟩, hb2⟩
      have HBB := Lib.hid hbb
      clear hbb
      cases bb with
      | true =>
        have HB1 := Lib.hid (HBB.out.1 rfl)
        clear HBB
        go_wp2
        go_ret
        exact ⟨BoolIs.no (fun h => h HB1.out), hB'.trans (hb2.mono hB'.size)⟩
      | false =>
        have HB1 : Hid (¬ p) := Lib.hid (fun h => by have := HBB.out.2 h; cases this)
        clear HBB
        go_wp2
        go_ret
        exact ⟨BoolIs.yes HB1.out, hB'.trans (hb2.mono hB'.size)⟩
    have HW := Lib.hid hW
    clear hW hv hJ hns ih hT
    obtain ⟨c0, c1, c2⟩ : W.cell? ⟨w.heap.size, 0, none⟩ = some (.int .i64 k) ∧ W.cell? ⟨w.heap.size, 1, none⟩ = some (.int .i64 n) ∧ W.cell? ⟨w.heap.size, 2, none⟩ = some (.string s) := ⟨hF.cell 0, hF.cell 1, hF.cell 2⟩
    have g0 : W.cell? ⟨w.heap.size + 1, 0, none⟩ = some (.int .i64 left) := hG.cell 0
    have lF := hF.lt
    show Calls Tryd.prog 26 #[.agg (valBlk k n s An ns cn Ai is ci), .int .i64 left] w _
    go_enter Tryd.func26, Tryd.ntmps26
    go_upto_region 1 with fail
    rw [← HW.out]
    go_cut [45] (fun c wx => CutRes left k n s c ∧ Below W.heap.size W wx)
    case first =>
      by_cases a0 : left = 0
      · have b0 : ((left : Int) == 0) = true := by simp [a0]
        have HB : Hid (¬ Head1 left k n s) := Lib.hid fun h => h.1 a0
        clear a0
        go_wp2
        go_meet
        exact ⟨CutRes.bad HB.out, Below.refl _ _⟩
      have b0 : ((left : Int) == 0) = false := by simp [a0]
      have A0 := Lib.hid a0
      clear a0
      by_cases a1 : k < 0
      · have HB : Hid (¬ Head1 left k n s) := Lib.hid fun h => by have := h.2.1; omega
        go_wp2
        go_meet
        exact ⟨CutRes.bad HB.out, Below.refl _ _⟩
      by_cases a2 : 6 < k
      · have HB : Hid (¬ Head1 left k n s) := Lib.hid fun h => by have := h.2.2.1; omega
        go_wp2
        go_meet
        exact ⟨CutRes.bad HB.out, Below.refl _ _⟩
      by_cases a3 : k = 3
      · subst a3
        by_cases a5 : (s.toList == []) = true
        rotate_left
        · rw [Bool.not_eq_true] at a5
          have a5n : (!(s.toList == [])) = true := by rw [a5]; rfl
          have HB : Hid (¬ Head1 left 3 n s) := Lib.hid fun h => by have := h.2.2.2.2.1 (by omega); rw [this] at a5; simp at a5
          go_wp2
          go_meet
          exact ⟨CutRes.bad HB.out, Below.refl _ _⟩
        have a5n : (!(s.toList == [])) = false := by rw [a5]; rfl
        have HS : Hid (TextP s → Head1 left 3 n s) := Lib.hid fun h => ⟨A0.out, by omega, by omega, fun h => absurd rfl h, fun _ => by simpa using a5, h⟩
        go_wp2_with fail
        refine HTX.out.mono ?_
        rintro e w2 ⟨⟨bb, rfl, hbb⟩, hb2⟩
        go_wp2
        go_meet
        exact ⟨CutRes.of HS.out hbb, hb2⟩
      have b3 : (k != 3) = true := by simp [a3]
      by_cases a4 : n = 0
      rotate_left
      · have b4 : (n != 0) = true := by simp [a4]
        have HB : Hid (¬ Head1 left k n s) := Lib.hid fun h => a4 (h.2.2.2.1 a3)
        clear a3 a4
        go_wp2
        go_meet
        exact ⟨CutRes.bad HB.out, Below.refl _ _⟩
      subst a4
      by_cases a6 : k = 4
      · subst a6
        have HS : Hid (TextP s → Head1 left 4 0 s) := Lib.hid fun h => ⟨A0.out, by omega, by omega, fun _ => rfl, fun h => absurd rfl h, h⟩
        go_wp2_with fail
        refine HTX.out.mono ?_
        rintro e w2 ⟨⟨bb, rfl, hbb⟩, hb2⟩
        go_wp2
        go_meet
        exact ⟨CutRes.of HS.out hbb, hb2⟩
      have b6 : (k != 4) = true := by simp [a6]
      by_cases a5 : (s.toList == []) = true
      rotate_left
      · rw [Bool.not_eq_true] at a5
        have a5n : (!(s.toList == [])) = true := by rw [a5]; rfl
        have HB : Hid (¬ Head1 left k 0 s) := Lib.hid fun h => by have := h.2.2.2.2.1 a6; rw [this] at a5; simp at a5
        clear a3 a6
        go_wp2
        go_meet
        exact ⟨CutRes.bad HB.out, Below.refl _ _⟩
      have a5n : (!(s.toList == [])) = false := by rw [a5]; rfl
      have HS : Hid (TextP s → Head1 left k 0 s) := Lib.hid fun h => ⟨A0.out, by omega, by omega, fun _ => rfl, fun _ => by simpa using a5, h⟩
      clear a3 a6
      go_wp2_with fail
      refine HTX.out.mono ?_
      rintro e w2 ⟨⟨bb, rfl, hbb⟩, hb2⟩
      go_wp2
      go_meet
      exact ⟨CutRes.of HS.out hbb, hb2⟩
    case rest =>
    clear c0 c1 c2 g0 HTX
    obtain ⟨⟨bb, rfl, hbb⟩, hBc⟩ := hcut
    have hBF := hB0.trans (hBc.mono hB0.size)
    have HBB := Lib.hid hbb
    clear hbb
    cases bb with
    | true =>
      have HN : Hid (¬ J) := Lib.hid fun h => by
        obtain ⟨h1, h2, _⟩ := HJ.out.1 h
        have := HBB.out.2 ⟨h1, h2.1, h2.2.1, h2.2.2.1, h2.2.2.2.1, h2.2.2.2.2.1⟩
        cases this
      go_wp2
      go_ret
      exact ⟨BoolIs.no HN.out, hBF⟩
    | false =>
    have HH := Lib.hid (HBB.out.1 rfl)
    clear HBB
    have hFc := hF.below hBc hF.lt
    obtain ⟨e0, e3, e4⟩ : wc.cell? ⟨w.heap.size, 0, none⟩ = some (.int .i64 k) ∧ wc.cell? ⟨w.heap.size, 3, none⟩ = some (.slice An ns.length cn) ∧ wc.cell? ⟨w.heap.size, 4, none⟩ = some (.slice Ai is.length ci) := ⟨hFc.cell 0, hFc.cell 3, hFc.cell 4⟩
    obtain ⟨hk0, hk6⟩ : 0 ≤ k ∧ k ≤ 6 := ⟨HH.out.2.1, HH.out.2.2.1⟩
    by_cases hk5 : k < 5
    · by_cases a1 : is.length = 0
      rotate_left
      · have b1 : ((is.length : Int) == 0) = false := by rw [beq_eq_false_iff_ne]; omega
        have HN : Hid (¬ J) := Lib.hid fun h => a1 ((HJ.out.1 h).2.1.2.2.2.2.2.1 hk5).1
        clear a1
        go_wp2
        go_ret
        exact ⟨BoolIs.no HN.out, hBF⟩
      have b1 : ((is.length : Int) == 0) = true := by rw [beq_iff_eq]; omega
      by_cases a2 : ns.length = 0
      rotate_left
      · have b2 : ((ns.length : Int) == 0) = false := by rw [beq_eq_false_iff_ne]; omega
        have HN : Hid (¬ J) := Lib.hid fun h => a2 ((HJ.out.1 h).2.1.2.2.2.2.2.1 hk5).2
        clear a1 a2
        go_wp2
        go_ret
        exact ⟨BoolIs.no HN.out, hBF⟩
      have b2 : ((ns.length : Int) == 0) = true := by rw [beq_iff_eq]; omega
      have HY : Hid J := Lib.hid (HJ.out.2 (by
        obtain ⟨h1, h2, h3, h4, h5, h6⟩ := HH.out
        refine ⟨h1, ⟨h2, h3, h4, h5, h6, fun _ => ⟨a1, a2⟩, fun h => by omega⟩, fun i h => by omega, fun x hx => ?_⟩
        rw [List.eq_nil_of_length_eq_zero a1] at hx; cases hx))
      clear a1 a2
      go_wp2
      go_ret
      exact ⟨BoolIs.yes HY.out, hBF⟩
    have hk56 : k = 5 ∨ k = 6 := by omega
    clear hk0 hk6 hk5 hk1 hk2
    by_cases a1 : 24 < is.length
    · have a1I : (24 : Int) < (is.length : Int) := by omega
      have HN : Hid (¬ J) := Lib.hid fun h => by have := ((HJ.out.1 h).2.1.2.2.2.2.2.2 (by omega)).1; omega
      rcases hk56 with rfl | rfl
      all_goals
        go_wp2
        go_ret
        exact ⟨BoolIs.no HN.out, hBF⟩
    have a1I : ¬ (24 : Int) < (is.length : Int) := by omega
    rcases hk56 with rfl | rfl
    · by_cases a2 : ns.length = 0
      rotate_left
      · have b2 : ((ns.length : Int) != 0) = true := by rw [bne_iff_ne]; omega
        have HN : Hid (¬ J) := Lib.hid fun h => a2 (by have h2 := (HJ.out.1 h).2.1; exact (h2.2.2.2.2.2.2 (by omega)).2.2 (by omega))
        clear a2
        go_wp2
        go_ret
        exact ⟨BoolIs.no HN.out, hBF⟩
      have b2 : ((ns.length : Int) != 0) = false := by rw [bne_eq_false_iff_eq]; omega
      have A2 := Lib.hid a2
      clear a2
      go_wp2
      go_loopw [79] (fun i wr => ∃ q : Nat, i = .int .i64 q ∧ q ≤ ns.length ∧ Hid (∀ j, j < q → NameOK ns j) ∧ Below W.heap.size W wr) (fun i _ => ns.length - (RowKit.intOf i).toNat)
      case atStart => exact ⟨0, rfl, Nat.zero_le _, Lib.hid fun j h => absurd h (by omega), hBc⟩
      case round =>
        clear e0 e3 e4 hFc hBF hBc
        obtain ⟨q, rfl, hq, HQ, hB⟩ := hrel
        have hBF := hB0.trans (hB.mono hB0.size)
        have hFr := hF.below hB hF.lt
        by_cases hlt : q < ns.length
        · have hqI : (q : Int) < (ns.length : Int) := by omega
          obtain ⟨b, off, hAn, hb, hca⟩ := (hnc.below hB) q (.string ns[q]) (by rw [List.getElem?_map, List.getElem?_eq_getElem hlt]; rfl)
          have e3 : wr.cell? ⟨w.heap.size, 3, none⟩ = some (.slice An ns.length cn) := hFr.cell 3
          have HT := Lib.hid (text_any ns[q] wr (HNS.out _ (List.getElem_mem hlt)) (hTW.below hB))
          have HNO : Hid (¬ NameOK ns q → ¬ J) := Lib.hid fun hn h => hn ((HJ.out.1 h).2.2.1 q)
          obtain ⟨x, hx⟩ : ∃ x, ns[q] = x := ⟨_, rfl⟩
          have HX := Lib.hid hx
          rw [hx] at hca HT
          clear hx
          subst hAn
          go_wp2_with fail
          refine HT.out.mono ?_
          rintro e w2 ⟨⟨bb, rfl, hbb⟩, hb2⟩
          have HBB := Lib.hid hbb
          clear hbb HT
          have hB2 := hB.trans (hb2.mono hB.size)
          have hBF2 := hB0.trans (hB2.mono hB0.size)
          cases bb with
          | false =>
            have HN : Hid (¬ J) := Lib.hid (HNO.out fun h => by
              have h1 := (h hlt).1
              rw [HX.out] at h1
              have := HBB.out.2 h1
              cases this)
            clear HNO
            go_wp2
            go_ret
            exact ⟨BoolIs.no HN.out, hBF2⟩
          | true =>
            have HTP := Lib.hid (HBB.out.1 rfl)
            clear HBB e3 hca
            by_cases hq0 : 0 < q
            · have hq0I : (0 : Int) < (q : Int) := by omega
              obtain ⟨p, hqp⟩ : ∃ p : Nat, q = p + 1 := ⟨q - 1, by omega⟩
              have hplt : p < ns.length := by omega
              have hpI : (p : Int) < (ns.length : Int) := by omega
              have hp0 : (0 : Int) ≤ (p : Int) := by omega
              have hws : IntKind.i64.wrap ((q : Int) - 1) = (p : Int) := by rw [IntKind.wrap_i64]; omega
              have hqs : (q : Int) - 1 = (p : Int) := by omega
              have hFr2 := hF.below hB2 hF.lt
              have e3 : w2.cell? ⟨w.heap.size, 3, none⟩ = some (.slice (some ⟨b, off, none⟩) ns.length cn) := hFr2.cell 3
              obtain ⟨b', off', hAn', hb', hcb⟩ := (hnc.below hB2) p (.string ns[p]) (by rw [List.getElem?_map, List.getElem?_eq_getElem hplt]; rfl)
              injection hAn' with hAn'
              injection hAn' with hA1 hA2
              subst hA1 hA2
              have HOK : Hid (Op.bytesLess (ns[p]).toList x.toList = true ↔ NameOK ns q) := Lib.hid (by
                subst hqp
                constructor
                · intro h hh
                  refine ⟨by rw [HX.out]; exact HTP.out, fun _ => ?_⟩
                  rw [HX.out]; exact h
                · intro h
                  have := (h hlt).2 (by omega)
                  rw [HX.out] at this
                  exact this)
              generalize ns[p] = y at *
              have HQP := Lib.hid hqp
              clear hqp
              cases hle : Op.bytesLess y.toList x.toList with
              | true =>
                have HOK1 := Lib.hid (HOK.out.1 hle)
                clear HOK HNO
                go_wp2
                go_roundw
                case rel => exact ⟨q + 1, by go_num, by omega, Lib.hid fun j hj => by
                  rcases Nat.lt_or_ge j q with h1 | h1
                  · exact HQ.out j h1
                  · obtain rfl : j = q := by omega
                    exact HOK1.out, hB2⟩
                case measure => simp [RowKit.intOf]; omega
              | false =>
                have HN : Hid (¬ J) := Lib.hid (HNO.out fun h => by have := HOK.out.2 h; rw [hle] at this; cases this)
                clear HOK HNO
                go_wp2
                go_ret
                exact ⟨BoolIs.no HN.out, hBF2⟩
            · obtain rfl : q = 0 := by omega
              have HOK1 : Hid (NameOK ns 0) := Lib.hid fun hh => ⟨by rw [HX.out]; exact HTP.out, fun h => absurd h (by omega)⟩
              clear HNO
              go_wp2
              go_roundw
              case rel => exact ⟨1, rfl, by omega, Lib.hid fun j hj => by
                obtain rfl : j = 0 := by omega
                exact HOK1.out, hB2⟩
              case measure => simp [RowKit.intOf]; omega
        · have hqI : ¬ (q : Int) < (ns.length : Int) := by omega
          have e4 : wr.cell? ⟨w.heap.size, 4, none⟩ = some (.slice Ai is.length ci) := hFr.cell 4
          have HCF := Lib.hid (contains_any 5 n s An ns cn Ai is ci (w.heap.size + 1) (fun x => FormedP x.j (left - 1)) wr (hvW.below hB _) fun q h w' hb' => HCL.out q h w' HH.out.1 (hB.trans (hb'.mono hB.size)))
          have HJ2 : Hid (J ↔ ¬ ∃ x ∈ is, ¬ FormedP x.j (left - 1)) := Lib.hid (HJ.out.trans ⟨fun h ⟨x, hx, hn⟩ => hn (h.2.2.2 x hx), fun h => by
            obtain ⟨h1, h2, h3, h4, h5, h6⟩ := HH.out
            exact ⟨h1, ⟨h2, h3, h4, h5, h6, fun h => absurd h (by omega), fun _ => ⟨by omega, fun h => absurd h (by omega), fun _ => A2.out⟩⟩, fun i hi => HQ.out i (by omega) hi, fun x hx => Classical.byContradiction fun hn => h ⟨x, hx, hn⟩⟩⟩)
          clear HCL HJ HQ
          generalize (∃ x ∈ is, ¬ FormedP x.j (left - 1)) = p at *
          go_wp2_with fail
          refine HCF.out.mono ?_
          rintro e w2 ⟨⟨bb, rfl, hbb⟩, hb2⟩
          have HBB := Lib.hid hbb
          clear hbb
          cases bb with
          | true =>
            have HB1 := Lib.hid (HBB.out.1 rfl)
            clear HBB
            go_wp2
            go_ret
            exact ⟨BoolIs.no (fun h => HJ2.out.1 h HB1.out), hBF.trans (hb2.mono hBF.size)⟩
          | false =>
            have HB1 : Hid (¬ p) := Lib.hid (fun h => by have := HBB.out.2 h; cases this)
            clear HBB
            go_wp2
            go_ret
            exact ⟨BoolIs.yes (HJ2.out.2 HB1.out), hBF.trans (hb2.mono hBF.size)⟩
    · by_cases a2 : ns.length = is.length
      rotate_left
      · have b2 : ((ns.length : Int) != (is.length : Int)) = true := by rw [bne_iff_ne]; omega
        have HN : Hid (¬ J) := Lib.hid fun h => a2 (by have h2 := (HJ.out.1 h).2.1; exact (h2.2.2.2.2.2.2 (by omega)).2.1 rfl)
        clear a2
        go_wp2
        go_ret
        exact ⟨BoolIs.no HN.out, hBF⟩
      have b2 : ((ns.length : Int) != (is.length : Int)) = false := by rw [bne_eq_false_iff_eq]; omega
      have A2 := Lib.hid a2
      clear a2
      go_wp2
      go_loopw [79] (fun i wr => ∃ q : Nat, i = .int .i64 q ∧ q ≤ ns.length ∧ Hid (∀ j, j < q → NameOK ns j) ∧ Below W.heap.size W wr) (fun i _ => ns.length - (RowKit.intOf i).toNat)
      case atStart => exact ⟨0, rfl, Nat.zero_le _, Lib.hid fun j h => absurd h (by omega), hBc⟩
      case round =>
        clear e0 e3 e4 hFc hBF hBc
        obtain ⟨q, rfl, hq, HQ, hB⟩ := hrel
        have hBF := hB0.trans (hB.mono hB0.size)
        have hFr := hF.below hB hF.lt
        by_cases hlt : q < ns.length
        · have hqI : (q : Int) < (ns.length : Int) := by omega
          obtain ⟨b, off, hAn, hb, hca⟩ := (hnc.below hB) q (.string ns[q]) (by rw [List.getElem?_map, List.getElem?_eq_getElem hlt]; rfl)
          have e3 : wr.cell? ⟨w.heap.size, 3, none⟩ = some (.slice An ns.length cn) := hFr.cell 3
          have HT := Lib.hid (text_any ns[q] wr (HNS.out _ (List.getElem_mem hlt)) (hTW.below hB))
          have HNO : Hid (¬ NameOK ns q → ¬ J) := Lib.hid fun hn h => hn ((HJ.out.1 h).2.2.1 q)
          obtain ⟨x, hx⟩ : ∃ x, ns[q] = x := ⟨_, rfl⟩
          have HX := Lib.hid hx
          rw [hx] at hca HT
          clear hx
          subst hAn
          go_wp2_with fail
          refine HT.out.mono ?_
          rintro e w2 ⟨⟨bb, rfl, hbb⟩, hb2⟩
          have HBB := Lib.hid hbb
          clear hbb HT
          have hB2 := hB.trans (hb2.mono hB.size)
          have hBF2 := hB0.trans (hB2.mono hB0.size)
          cases bb with
          | false =>
            have HN : Hid (¬ J) := Lib.hid (HNO.out fun h => by
              have h1 := (h hlt).1
              rw [HX.out] at h1
              have := HBB.out.2 h1
              cases this)
            clear HNO
            go_wp2
            go_ret
            exact ⟨BoolIs.no HN.out, hBF2⟩
          | true =>
            have HTP := Lib.hid (HBB.out.1 rfl)
            clear HBB e3 hca
            by_cases hq0 : 0 < q
            · have hq0I : (0 : Int) < (q : Int) := by omega
              obtain ⟨p, hqp⟩ : ∃ p : Nat, q = p + 1 := ⟨q - 1, by omega⟩
              have hplt : p < ns.length := by omega
              have hpI : (p : Int) < (ns.length : Int) := by omega
              have hp0 : (0 : Int) ≤ (p : Int) := by omega
              have hws : IntKind.i64.wrap ((q : Int) - 1) = (p : Int) := by rw [IntKind.wrap_i64]; omega
              have hqs : (q : Int) - 1 = (p : Int) := by omega
              have hFr2 := hF.below hB2 hF.lt
              have e3 : w2.cell? ⟨w.heap.size, 3, none⟩ = some (.slice (some ⟨b, off, none⟩) ns.length cn) := hFr2.cell 3
              obtain ⟨b', off', hAn', hb', hcb⟩ := (hnc.below hB2) p (.string ns[p]) (by rw [List.getElem?_map, List.getElem?_eq_getElem hplt]; rfl)
              injection hAn' with hAn'
              injection hAn' with hA1 hA2
              subst hA1 hA2
              have HOK : Hid (Op.bytesLess (ns[p]).toList x.toList = true ↔ NameOK ns q) := Lib.hid (by
                subst hqp
                constructor
                · intro h hh
                  refine ⟨by rw [HX.out]; exact HTP.out, fun _ => ?_⟩
                  rw [HX.out]; exact h
                · intro h
                  have := (h hlt).2 (by omega)
                  rw [HX.out] at this
                  exact this)
              generalize ns[p] = y at *
              have HQP := Lib.hid hqp
              clear hqp
              cases hle : Op.bytesLess y.toList x.toList with
              | true =>
                have HOK1 := Lib.hid (HOK.out.1 hle)
                clear HOK HNO
                go_wp2
                go_roundw
                case rel => exact ⟨q + 1, by go_num, by omega, Lib.hid fun j hj => by
                  rcases Nat.lt_or_ge j q with h1 | h1
                  · exact HQ.out j h1
                  · obtain rfl : j = q := by omega
                    exact HOK1.out, hB2⟩
                case measure => simp [RowKit.intOf]; omega
              | false =>
                have HN : Hid (¬ J) := Lib.hid (HNO.out fun h => by have := HOK.out.2 h; rw [hle] at this; cases this)
                clear HOK HNO
                go_wp2
                go_ret
                exact ⟨BoolIs.no HN.out, hBF2⟩
            · obtain rfl : q = 0 := by omega
              have HOK1 : Hid (NameOK ns 0) := Lib.hid fun hh => ⟨by rw [HX.out]; exact HTP.out, fun h => absurd h (by omega)⟩
              clear HNO
              go_wp2
              go_roundw
              case rel => exact ⟨1, rfl, by omega, Lib.hid fun j hj => by
                obtain rfl : j = 0 := by omega
                exact HOK1.out, hB2⟩
              case measure => simp [RowKit.intOf]; omega
        · have hqI : ¬ (q : Int) < (ns.length : Int) := by omega
          have e4 : wr.cell? ⟨w.heap.size, 4, none⟩ = some (.slice Ai is.length ci) := hFr.cell 4
          have HCF := Lib.hid (contains_any 6 n s An ns cn Ai is ci (w.heap.size + 1) (fun x => FormedP x.j (left - 1)) wr (hvW.below hB _) fun q h w' hb' => HCL.out q h w' HH.out.1 (hB.trans (hb'.mono hB.size)))
          have HJ2 : Hid (J ↔ ¬ ∃ x ∈ is, ¬ FormedP x.j (left - 1)) := Lib.hid (HJ.out.trans ⟨fun h ⟨x, hx, hn⟩ => hn (h.2.2.2 x hx), fun h => by
            obtain ⟨h1, h2, h3, h4, h5, h6⟩ := HH.out
            exact ⟨h1, ⟨h2, h3, h4, h5, h6, fun h => absurd h (by omega), fun _ => ⟨by omega, fun _ => A2.out, fun h => absurd rfl h⟩⟩, fun i hi => HQ.out i (by omega) hi, fun x hx => Classical.byContradiction fun hn => h ⟨x, hx, hn⟩⟩⟩)
          clear HCL HJ HQ
          generalize (∃ x ∈ is, ¬ FormedP x.j (left - 1)) = p at *
          go_wp2_with fail
          refine HCF.out.mono ?_
          rintro e w2 ⟨⟨bb, rfl, hbb⟩, hb2⟩
          have HBB := Lib.hid hbb
          clear hbb
          cases bb with
          | true =>
            have HB1 := Lib.hid (HBB.out.1 rfl)
            clear HBB
            go_wp2
            go_ret
            exact ⟨BoolIs.no (fun h => HJ2.out.1 h HB1.out), hBF.trans (hb2.mono hBF.size)⟩
          | false =>
            have HB1 : Hid (¬ p) := Lib.hid (fun h => by have := HBB.out.2 h; cases this)
            clear HBB
            go_wp2
            go_ret
            exact ⟨BoolIs.yes (HJ2.out.2 HB1.out), hBF.trans (hb2.mono hBF.size)⟩

set_option maxHeartbeats 2000000 in
theorem jformed_any (v : LV) (w : World) (hv : v.At w) (hT : Tabs w) : Calls Tryd.prog 13 #[v.val] w fun e w' => BoolIs (FormedP v.j 6) e ∧ Below w.heap.size w w' := by
  obtain ⟨k, n, s, An, ns, cn, Ai, is, ci⟩ := v
  obtain ⟨W, hW⟩ : ∃ W, W = w.alloc (.cells (valBlk k n s An ns cn Ai is ci) 25) := ⟨_, rfl⟩
  have hB0 : Below w.heap.size w W := by rw [hW]; exact (Below.refl _ _).alloc (Nat.le_refl _) _
  have HC := Lib.hid (formed_any _ (.mk k n s An ns cn Ai is ci) 6 W (Nat.lt_succ_self _) (hv.below hB0 _) (by omega) (hT.below hB0))
  have HW := Lib.hid hW
  clear hW hv hT
  generalize FormedP (LV.mk k n s An ns cn Ai is ci).j 6 = D at *
  show Calls Tryd.prog 13 #[.agg (valBlk k n s An ns cn Ai is ci)] w _
  go_enter Tryd.func13, Tryd.ntmps13
  go_wp2_with fail
  rw [← HW.out]
  refine HC.out.mono ?_
  rintro e w2 ⟨⟨bb, rfl, hbb⟩, hb2⟩
  go_wp2
  go_ret
  exact ⟨⟨bb, rfl, hbb⟩, hB0.trans (hb2.mono hB0.size)⟩
end Go.Proofs.YtmobolefijneoaaDoor
