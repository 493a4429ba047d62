/-
  The contracts of munimentref01.formed, Formed.
-/
import Derived.Test.YtmobolefijneoaaDoorWe
import Derived.Test.YtmobolefijneoaaDoorWf
import Derived.Test.YtmobolefijneoaaDoorCl
import Derived.Deep.QuietTactic
import Derived.BigQuiet
import Derived.Deep.RegionHeld3
set_option linter.unusedVariables false
namespace Go.Proofs.YtmobolefijneoaaDoor
open Go.RowKit

def CutIs (P : Prop) (c : Value) : Prop := ∃ b : Bool, c = .bool b ∧ (b = false ↔ P)
theorem CutIs.bad {P : Prop} (h : ¬ P) : CutIs P (.bool true) := ⟨true, rfl, by simp [h]⟩
theorem CutIs.good {P : Prop} (h : P) : CutIs P (.bool false) := ⟨false, rfl, by simp [h]⟩
theorem CutIs.of {P Q : Prop} {b : Bool} (h : Q → P) (h2 : P → Q) (hb : b = true ↔ Q) : CutIs P (.bool !b) := ⟨!b, rfl, by
  cases b with
  | true => simp; exact h (hb.1 rfl)
  | false => simp; exact fun g => by have := hb.2 (h2 g); cases this⟩
def RP1 (k n : Int) (s : ByteArray) : Prop := 0 ≤ k ∧ k ≤ 6 ∧ (k ≠ 3 → n = 0) ∧ (k ≠ 4 → s.toList = [])
def RP2 (k : Int) (s : ByteArray) (nn ni : Nat) : Prop := (k ≠ 6 → nn = 0) ∧ (k < 5 → ni = 0) ∧ ni ≤ 24 ∧ TextP s
def RP3 (k : Int) (nn ni : Nat) : Prop := k = 6 → nn = ni
theorem head_parts {k n : Int} {s : ByteArray} {nn ni : Nat} : HeadOK k n s nn ni ↔ RP1 k n s ∧ RP2 k s nn ni ∧ RP3 k nn ni := by
  unfold HeadOK RP1 RP2 RP3
  constructor
  · rintro ⟨h1, h2, h3, h4, h5, h6, h7⟩
    refine ⟨⟨h1, h2, h3, h4⟩, ⟨fun h => ?_, fun h => (h6 h).1, ?_, h5⟩, fun h => (h7 (by omega)).2.1 h⟩
    · by_cases h8 : k < 5
      · exact (h6 h8).2
      · exact (h7 (by omega)).2.2 h
    · by_cases h8 : k < 5
      · have := (h6 h8).1; omega
      · exact (h7 (by omega)).1
  · rintro ⟨⟨h1, h2, h3, h4⟩, ⟨h5, h6, h7, h8⟩, h9⟩
    exact ⟨h1, h2, h3, h4, h8, fun h => ⟨h6 h, h5 (by omega)⟩, fun h => ⟨h7, h9, h5⟩⟩

set_option maxRecDepth 8000 in
set_option maxHeartbeats 16000000 in
theorem rformed0_any : ∀ (m : Nat) (v : LV) (w : World), v.sz < m → v.At w →
    Calls Tryd.prog 37 #[v.val] w fun e w' => BoolIs (FormedR v.j) e ∧ Below w.heap.size w w' := by
  intro m
  induction m with
  | zero => intro v w hm; omega
  | succ m ih =>
    intro v w hm hv
    obtain ⟨k, n, s, An, ns, cn, Ai, is, ci⟩ := v
    obtain ⟨W, hW⟩ : ∃ W, W = w.alloc (.cells (valBlk k n s An ns cn Ai is ci) 25) := ⟨_, rfl⟩
    have hB0 : Below w.heap.size w W := by rw [hW]; exact (Below.refl _ _).alloc (Nat.le_refl _) _
    have hF : Blk W w.heap.size 25 (valBlk k n s An ns cn Ai is ci) := by rw [hW]; exact Blk.new w _ _
    have hvW := hv.below hB0 _
    obtain ⟨⟨hk1, hk2⟩, _, hss, hns, hn1, hi1⟩ : (-9223372036854775808 ≤ k ∧ k ≤ 9223372036854775807) ∧ (-9223372036854775808 ≤ n ∧ n ≤ 9223372036854775807) ∧ s.size ≤ 9223372036854775807 ∧ (∀ x ∈ ns, x.size ≤ 9223372036854775807) ∧ (ns.length ≤ cn ∧ cn ≤ 9223372036854775807) ∧ is.length ≤ ci ∧ ci ≤ 9223372036854775807 := by unfold LV.At at hv; exact hv.2.2.2
    have hnc : Cells W W.heap.size An (ns.map Value.string) := by have := hvW; unfold LV.At at this; exact this.1
    have HTX := Lib.hid (rtext_any s W)
    obtain ⟨J, hJ⟩ : ∃ p : Prop, p = FormedR (LV.mk k n s An ns cn Ai is ci).j := ⟨_, rfl⟩
    rw [← hJ]
    have HJ : Hid (J ↔ (RP1 k n s ∧ RP2 k s ns.length is.length ∧ RP3 k ns.length is.length) ∧ NamesOK ns ∧ ∀ x ∈ is, FormedR x.j) := Lib.hid (by
      rw [hJ, LV.j, FormedR, formedRAll_iff, LV.js_len, LV.js_map, head_parts]
      simp)
    have HW := Lib.hid hW
    clear hW hv hJ hns
    obtain ⟨c0, c1, c2, c3, c4⟩ : W.cell? ⟨w.heap.size, 0, none⟩ = some (.int .i64 k) ∧ W.cell? ⟨w.heap.size, 1, none⟩ = some (.int .i64 n) ∧ W.cell? ⟨w.heap.size, 2, none⟩ = some (.string s) ∧ W.cell? ⟨w.heap.size, 3, none⟩ = some (.slice An ns.length cn) ∧ W.cell? ⟨w.heap.size, 4, none⟩ = some (.slice Ai is.length ci) := ⟨hF.cell 0, hF.cell 1, hF.cell 2, hF.cell 3, hF.cell 4⟩
    have lF := hF.lt
    show Calls Tryd.prog 37 #[.agg (valBlk k n s An ns cn Ai is ci)] w _
    go_enter Tryd.func37, Tryd.ntmps37
    go_upto_region 1 with fail
    rw [← HW.out]
    go_cut [32] (fun c wx => CutIs (RP1 k n s) c ∧ wx = W)
    case first =>
      by_cases a1 : k < 0
      · have HB : Hid (¬ RP1 k n s) := Lib.hid fun h => by have := h.1; omega
        go_wp2
        go_meet
        exact ⟨CutIs.bad HB.out, rfl⟩
      by_cases a2 : 6 < k
      · have HB : Hid (¬ RP1 k n s) := Lib.hid fun h => by have := h.2.1; omega
        go_wp2
        go_meet
        exact ⟨CutIs.bad HB.out, rfl⟩
      by_cases a3 : k = 3
      · subst a3
        by_cases a5 : (s.toList == []) = true
        rotate_left
        · rw [Bool.not_eq_true] at a5
          have a5n : (!(s.toList == [])) = true := by rw [a5]; rfl
          have HB : Hid (¬ RP1 3 n s) := Lib.hid fun h => by have := h.2.2.2 (by omega); rw [this] at a5; simp at a5
          go_wp2
          go_meet
          exact ⟨CutIs.bad HB.out, rfl⟩
        have a5n : (!(s.toList == [])) = false := by rw [a5]; rfl
        have HS : Hid (RP1 3 n s) := Lib.hid ⟨by omega, by omega, fun h => absurd rfl h, fun _ => by simpa using a5⟩
        go_wp2
        go_meet
        exact ⟨CutIs.good HS.out, rfl⟩
      have b3 : (k != 3) = true := by simp [a3]
      by_cases a4 : n = 0
      rotate_left
      · have b4 : (n != 0) = true := by simp [a4]
        have HB : Hid (¬ RP1 k n s) := Lib.hid fun h => a4 (h.2.2.1 a3)
        clear a3 a4
        go_wp2
        go_meet
        exact ⟨CutIs.bad HB.out, rfl⟩
      subst a4
      by_cases a6 : k = 4
      · subst a6
        have HS : Hid (RP1 4 0 s) := Lib.hid ⟨by omega, by omega, fun _ => rfl, fun h => absurd rfl h⟩
        go_wp2
        go_meet
        exact ⟨CutIs.good HS.out, rfl⟩
      have b6 : (k != 4) = true := by simp [a6]
      by_cases a5 : (s.toList == []) = true
      rotate_left
      · rw [Bool.not_eq_true] at a5
        have a5n : (!(s.toList == [])) = true := by rw [a5]; rfl
        have HB : Hid (¬ RP1 k 0 s) := Lib.hid fun h => by have := h.2.2.2 a6; rw [this] at a5; simp at a5
        clear a3 a6
        go_wp2
        go_meet
        exact ⟨CutIs.bad HB.out, rfl⟩
      have a5n : (!(s.toList == [])) = false := by rw [a5]; rfl
      have HS : Hid (RP1 k 0 s) := Lib.hid ⟨by omega, by omega, fun _ => rfl, fun _ => by simpa using a5⟩
      clear a3 a6
      go_wp2
      go_meet
      exact ⟨CutIs.good HS.out, rfl⟩
    case rest =>
    obtain ⟨⟨bb, rfl, hbb⟩, hwc⟩ := hcut
    have hwc2 := hwc.symm
    clear hwc
    subst hwc2
    have HBB := Lib.hid hbb
    clear hbb
    cases bb with
    | true =>
      have HN : Hid (¬ J) := Lib.hid fun h => by have := HBB.out.2 (HJ.out.1 h).1.1; cases this
      clear HBB
      go_wp2
      go_ret
      exact ⟨BoolIs.no HN.out, hB0⟩
    | false =>
    have H1 := Lib.hid (HBB.out.1 rfl)
    clear HBB
    go_upto_region 3 with fail
    go_cut [64] (fun c wx => CutIs (RP2 k s ns.length is.length) c ∧ Below W.heap.size W wx)
    case first =>
      by_cases a1 : k = 6
      · subst a1
        by_cases a2 : 24 < is.length
        · have a2I : (24 : Int) < (is.length : Int) := by omega
          have HB : Hid (¬ RP2 6 s ns.length is.length) := Lib.hid fun h => by have := h.2.2.1; omega
          go_wp2
          go_meet
          exact ⟨CutIs.bad HB.out, Below.refl _ _⟩
        have a2I : ¬ (24 : Int) < (is.length : Int) := by omega
        have HS : Hid (TextP s → RP2 6 s ns.length is.length) := Lib.hid fun h => ⟨fun h => absurd rfl h, fun h => absurd h (by omega), by omega, h⟩
        go_wp2_with fail
        refine HTX.out.mono ?_
        rintro e w2 ⟨⟨bb, rfl, hbb⟩, hb2⟩
        go_wp2
        go_meet
        exact ⟨CutIs.of HS.out (fun h => h.2.2.2) hbb, hb2⟩
      have b1 : (k != 6) = true := by simp [a1]
      by_cases a2 : 0 < ns.length
      · have a2I : (0 : Int) < (ns.length : Int) := by omega
        have HB : Hid (¬ RP2 k s ns.length is.length) := Lib.hid fun h => by have := h.1 a1; omega
        clear a1
        go_wp2
        go_meet
        exact ⟨CutIs.bad HB.out, Below.refl _ _⟩
      have a2I : ¬ (0 : Int) < (ns.length : Int) := by omega
      by_cases a3 : k < 5
      · by_cases a4 : 0 < is.length
        · have a4I : (0 : Int) < (is.length : Int) := by omega
          have HB : Hid (¬ RP2 k s ns.length is.length) := Lib.hid fun h => by have := h.2.1 a3; omega
          clear a1
          go_wp2
          go_meet
          exact ⟨CutIs.bad HB.out, Below.refl _ _⟩
        have a4I : ¬ (0 : Int) < (is.length : Int) := by omega
        have a5I : ¬ (24 : Int) < (is.length : Int) := by omega
        have HS : Hid (TextP s → RP2 k s ns.length is.length) := Lib.hid fun h => ⟨fun h => by omega, fun h => by omega, by omega, h⟩
        clear a1
        go_wp2_with fail
        refine HTX.out.mono ?_
        rintro e w2 ⟨⟨bb, rfl, hbb⟩, hb2⟩
        go_wp2
        go_meet
        exact ⟨CutIs.of HS.out (fun h => h.2.2.2) hbb, hb2⟩
      by_cases a4 : 24 < is.length
      · have a4I : (24 : Int) < (is.length : Int) := by omega
        have HB : Hid (¬ RP2 k s ns.length is.length) := Lib.hid fun h => by have := h.2.2.1; omega
        clear a1
        go_wp2
        go_meet
        exact ⟨CutIs.bad HB.out, Below.refl _ _⟩
      have a4I : ¬ (24 : Int) < (is.length : Int) := by omega
      have HS : Hid (TextP s → RP2 k s ns.length is.length) := Lib.hid fun h => ⟨fun h => by omega, fun h => absurd h a3, by omega, h⟩
      clear a1
      go_wp2_with fail
      refine HTX.out.mono ?_
      rintro e w2 ⟨⟨bb, rfl, hbb⟩, hb2⟩
      go_wp2
      go_meet
      exact ⟨CutIs.of HS.out (fun h => h.2.2.2) hbb, hb2⟩
    case rest =>
    obtain ⟨⟨bb, rfl, hbb⟩, hBc⟩ := hcut
    have HBB := Lib.hid hbb
    clear hbb c0 c1 c2 c3 c4 HTX
    have hBF := hB0.trans (hBc.mono hB0.size)
    cases bb with
    | true =>
      have HN : Hid (¬ J) := Lib.hid fun h => by have := HBB.out.2 (HJ.out.1 h).1.2.1; cases this
      clear HBB
      go_wp2
      go_ret
      exact ⟨BoolIs.no HN.out, hBF⟩
    | false =>
    have H2 := Lib.hid (HBB.out.1 rfl)
    clear HBB
    go_upto_region 5 with fail
    have hFc := hF.below hBc hF.lt
    obtain ⟨c0, c3, c4⟩ : wc.cell? ⟨w.heap.size, 0, none⟩ = some (.int .i64 k) ∧ wc.cell? ⟨w.heap.size, 3, none⟩ = some (.slice An ns.length cn) ∧ wc.cell? ⟨w.heap.size, 4, none⟩ = some (.slice Ai is.length ci) := ⟨hFc.cell 0, hFc.cell 3, hFc.cell 4⟩
    generalize wc = wd at *
    go_cut [76] (fun c wx => CutIs (RP3 k ns.length is.length) c ∧ wx = wd)
    case first =>
      by_cases a1 : k = 6
      · subst a1
        by_cases a2 : ns.length = is.length
        · have b2 : ((ns.length : Int) != (is.length : Int)) = false := by rw [bne_eq_false_iff_eq]; omega
          have HS : Hid (RP3 6 ns.length is.length) := Lib.hid fun _ => a2
          clear a2
          go_wp2
          go_meet
          exact ⟨CutIs.good HS.out, rfl⟩
        · have b2 : ((ns.length : Int) != (is.length : Int)) = true := by rw [bne_iff_ne]; omega
          have HS : Hid (¬ RP3 6 ns.length is.length) := Lib.hid fun h => a2 (h rfl)
          clear a2
          go_wp2
          go_meet
          exact ⟨CutIs.bad HS.out, rfl⟩
      · have b1 : (k == 6) = false := by simp [a1]
        have HS : Hid (RP3 k ns.length is.length) := Lib.hid fun h => absurd h a1
        clear a1
        go_wp2
        go_meet
        exact ⟨CutIs.good HS.out, rfl⟩
    case rest =>
    obtain ⟨⟨bb, rfl, hbb⟩, rfl⟩ := hcut
    have HBB := Lib.hid hbb
    clear hbb c0 c3 c4
    cases bb with
    | true =>
      have HN : Hid (¬ J) := Lib.hid fun h => by have := HBB.out.2 (HJ.out.1 h).1.2.2; cases this
      clear HBB
      go_wp2
      go_ret
      exact ⟨BoolIs.no HN.out, hBF⟩
    | false =>
    have H3 := Lib.hid (HBB.out.1 rfl)
    clear HBB
    go_wp2
    go_loopw [3] (fun i wr => ∃ q : Nat, i = .int .i64 q ∧ q ≤ ns.length ∧ Hid (∀ j, j < q → NameOK ns j) ∧ Below W.heap.size W wr) (fun i _ => ns.length - (RowKit.intOf i).toNat)
    case atStart => exact ⟨0, rfl, Nat.zero_le _, Lib.hid fun j h => absurd h (by omega), hBc⟩
    case round =>
      clear hFc hBF hBc
      obtain ⟨q, rfl, hq, HQ, hB⟩ := hrel
      have hBF := hB0.trans (hB.mono hB0.size)
      have hFr := hF.below hB hF.lt
      have lFr := hFr.lt
      have e3 : wr.cell? ⟨w.heap.size, 3, none⟩ = some (.slice An ns.length cn) := hFr.cell 3
      by_cases hlt : q < ns.length
      · have hqI : (q : Int) < (ns.length : Int) := by omega
        have hq00 : (0 : Int) ≤ (q : Int) := by omega
        obtain ⟨b, off, hAn, hb, hca⟩ := (hnc.below hB) q (.string ns[q]) (by rw [List.getElem?_map, List.getElem?_eq_getElem hlt]; rfl)
        have hbr : b < wr.heap.size := Nat.lt_of_lt_of_le hb hB.size
        have HT := Lib.hid (fun w' => rtext_any ns[q] w')
        have HNO : Hid (¬ NameOK ns q → ¬ J) := Lib.hid fun hn h => hn ((HJ.out.1 h).2.1 q)
        obtain ⟨x, hx⟩ : ∃ x, ns[q] = x := ⟨_, rfl⟩
        have HX := Lib.hid hx
        rw [hx] at hca HT
        clear hx
        subst hAn
        by_cases htx : TextP x
        rotate_left
        · have HN : Hid (¬ J) := Lib.hid (HNO.out fun h => by
            have h1 := (h hlt).1
            rw [HX.out] at h1
            exact htx h1)
          have HT2 : Hid (∀ w', Calls Tryd.prog 49 #[.string x] w' fun e w'' => e = .returned (.bool false) ∧ Below w'.heap.size w' w'') := Lib.hid fun w' => (HT.out w').mono (by
            rintro e w2 ⟨⟨bb, rfl, hbb⟩, hb2⟩
            cases bb with
            | false => exact ⟨rfl, hb2⟩
            | true => exact absurd (hbb.1 rfl) htx)
          clear HNO HT htx
          go_wp2
          have HS : Hid (∀ w', Calm wr w' → w'.cell? ⟨w.heap.size, 3, none⟩ = some (.slice (some ⟨b, off, none⟩) ns.length cn) ∧ w'.cell? ⟨b, off + q, none⟩ = some (.string x)) := Lib.hid fun w' hw' => ⟨(Below.cell (p := ⟨w.heap.size, 3, none⟩) hw' (by exact lFr)).trans e3, (Below.cell (p := ⟨b, off + q, none⟩) hw' (by exact hbr)).trans hca⟩
          clear e3 hca
          refine region_calm (by kernel_rfl) (by kernel_rfl) ?_
          repeat (first
            | go_big_quiet_skip
            | (go_big_quiet_want
               apply quiet_at
               · intro w' hw'
                 (obtain ⟨z0, z1⟩ := HS.out _ (by assumption))
                 go_simp
                 first
                   | done
                   | exact rfl
                   | ((go_at_call 49; refine (HT2.out _).mono ?_; rintro e w9 ⟨h1, h2⟩; exact ⟨h1, Below.trans (by assumption) (h2.mono (Below.size (by assumption)))⟩))
               (try simp only [Act.put, List.setIfInBounds_toArray, List.set_cons_zero, List.set_cons_succ])
               go_big_quiet_on))
          refine wpQuiet_nil ?_
          intro w5 hb5
          have hb5d : Below wr.heap.size wr w5 := hb5
          all_goals
            go_wp2
            go_ret
            exact ⟨BoolIs.no HN.out, hBF.trans (hb5d.mono hBF.size)⟩
        have HTP := Lib.hid htx
        have HT2 : Hid (∀ w', Calls Tryd.prog 49 #[.string x] w' fun e w'' => e = .returned (.bool true) ∧ Below w'.heap.size w' w'') := Lib.hid fun w' => (HT.out w').mono (by
          rintro e w2 ⟨⟨bb, rfl, hbb⟩, hb2⟩
          cases bb with
          | true => exact ⟨rfl, hb2⟩
          | false => have := hbb.2 htx; cases this)
        clear HT htx
        by_cases hq0 : 0 < q
        · have hq0I : (0 : Int) < (q : Int) := by omega
          obtain ⟨p, hqp⟩ : ∃ p : Nat, q = p + 1 := ⟨q - 1, by omega⟩
          have hplt : p < ns.length := by omega
          have hpI : (p : Int) < (ns.length : Int) := by omega
          have hp0 : (0 : Int) ≤ (p : Int) := by omega
          have hws : IntKind.i64.wrap ((q : Int) - 1) = (p : Int) := by rw [IntKind.wrap_i64]; omega
          obtain ⟨b', off', hAn', hb', hcb⟩ := (hnc.below hB) p (.string ns[p]) (by rw [List.getElem?_map, List.getElem?_eq_getElem hplt]; rfl)
          injection hAn' with hAn'
          injection hAn' with hA1 hA2
          subst hA1 hA2
          have HOK : Hid (Op.bytesLess (ns[p]).toList x.toList = true ↔ NameOK ns q) := Lib.hid (by
            subst hqp
            constructor
            · intro h hh
              refine ⟨by rw [HX.out]; exact HTP.out, fun _ => ?_⟩
              rw [HX.out]; exact h
            · intro h
              have := (h hlt).2 (by omega)
              rw [HX.out] at this
              exact this)
          generalize ns[p] = y at *
          have HQP := Lib.hid hqp
          clear hqp
          have HLE : Hid (∀ c : Bool, Op.bytesLess y.toList x.toList = c → (c = true ↔ NameOK ns q)) := Lib.hid fun c hc => by rw [← hc]; exact HOK.out
          clear HOK
          have hdq : decide ((0 : Int) < (q : Int)) = true := by simp; omega
          cases hle : Op.bytesLess y.toList x.toList with
          | true =>
            have HOK1 := Lib.hid ((HLE.out true hle).1 rfl)
            clear HLE HNO
            have hlen : (!Op.bytesLess y.toList x.toList) = false := by rw [hle]; rfl
            go_wp2
            have HS : Hid (∀ w', Calm wr w' → w'.cell? ⟨w.heap.size, 3, none⟩ = some (.slice (some ⟨b, off, none⟩) ns.length cn) ∧ w'.cell? ⟨b, off + q, none⟩ = some (.string x) ∧ w'.cell? ⟨b, off + p, none⟩ = some (.string y)) := Lib.hid fun w' hw' => ⟨(Below.cell (p := ⟨w.heap.size, 3, none⟩) hw' (by exact lFr)).trans e3, (Below.cell (p := ⟨b, off + q, none⟩) hw' (by exact hbr)).trans hca, (Below.cell (p := ⟨b, off + p, none⟩) hw' (by exact hbr)).trans hcb⟩
            clear e3 hca hcb
            refine region_calm (by kernel_rfl) (by kernel_rfl) ?_
            repeat (first
              | go_big_quiet_skip
              | (go_big_quiet_want
                 apply quiet_at
                 · intro w' hw'
                   (obtain ⟨z0, z1, z2⟩ := HS.out _ (by assumption))
                   go_simp
                   first
                     | done
                     | exact rfl
                     | ((go_at_call 49; refine (HT2.out _).mono ?_; rintro e w9 ⟨h1, h2⟩; exact ⟨h1, Below.trans (by assumption) (h2.mono (Below.size (by assumption)))⟩))
                 (try simp only [Act.put, List.setIfInBounds_toArray, List.set_cons_zero, List.set_cons_succ])
                 go_big_quiet_on))
            refine wpQuiet_nil ?_
            intro w5 hb5
            have hb5d : Below wr.heap.size wr w5 := hb5
            all_goals
              go_wp2
              go_roundw
              case rel => exact ⟨q + 1, by go_num, by omega, Lib.hid fun j hj => by
                rcases Nat.lt_or_ge j q with h1 | h1
                · exact HQ.out j h1
                · obtain rfl : j = q := by omega
                  exact HOK1.out, hB.trans (hb5d.mono hB.size)⟩
              case measure => simp [RowKit.intOf]; omega
          | false =>
            have HN : Hid (¬ J) := Lib.hid (HNO.out fun h => by have := (HLE.out false hle).2 h; cases this)
            clear HLE HNO
            have hlen : (!Op.bytesLess y.toList x.toList) = true := by rw [hle]; rfl
            go_wp2
            have HS : Hid (∀ w', Calm wr w' → w'.cell? ⟨w.heap.size, 3, none⟩ = some (.slice (some ⟨b, off, none⟩) ns.length cn) ∧ w'.cell? ⟨b, off + q, none⟩ = some (.string x) ∧ w'.cell? ⟨b, off + p, none⟩ = some (.string y)) := Lib.hid fun w' hw' => ⟨(Below.cell (p := ⟨w.heap.size, 3, none⟩) hw' (by exact lFr)).trans e3, (Below.cell (p := ⟨b, off + q, none⟩) hw' (by exact hbr)).trans hca, (Below.cell (p := ⟨b, off + p, none⟩) hw' (by exact hbr)).trans hcb⟩
            clear e3 hca hcb
            refine region_calm (by kernel_rfl) (by kernel_rfl) ?_
            repeat (first
              | go_big_quiet_skip
              | (go_big_quiet_want
                 apply quiet_at
                 · intro w' hw'
                   (obtain ⟨z0, z1, z2⟩ := HS.out _ (by assumption))
                   go_simp
                   first
                     | done
                     | exact rfl
                     | ((go_at_call 49; refine (HT2.out _).mono ?_; rintro e w9 ⟨h1, h2⟩; exact ⟨h1, Below.trans (by assumption) (h2.mono (Below.size (by assumption)))⟩))
                 (try simp only [Act.put, List.setIfInBounds_toArray, List.set_cons_zero, List.set_cons_succ])
                 go_big_quiet_on))
            refine wpQuiet_nil ?_
            intro w5 hb5
            have hb5d : Below wr.heap.size wr w5 := hb5
            all_goals
              go_wp2
              go_ret
              exact ⟨BoolIs.no HN.out, hBF.trans (hb5d.mono hBF.size)⟩
        · obtain rfl : q = 0 := by omega
          have HOK1 : Hid (NameOK ns 0) := Lib.hid fun hh => ⟨by rw [HX.out]; exact HTP.out, fun h => absurd h (by omega)⟩
          clear HNO
          go_wp2
          have HS : Hid (∀ w', Calm wr w' → w'.cell? ⟨w.heap.size, 3, none⟩ = some (.slice (some ⟨b, off, none⟩) ns.length cn) ∧ w'.cell? ⟨b, off, none⟩ = some (.string x)) := Lib.hid fun w' hw' => ⟨(Below.cell (p := ⟨w.heap.size, 3, none⟩) hw' (by exact lFr)).trans e3, (Below.cell (p := ⟨b, off, none⟩) hw' (by exact hbr)).trans hca⟩
          clear e3 hca
          refine region_calm (by kernel_rfl) (by kernel_rfl) ?_
          repeat (first
            | go_big_quiet_skip
            | (go_big_quiet_want
               apply quiet_at
               · intro w' hw'
                 (obtain ⟨z0, z1⟩ := HS.out _ (by assumption))
                 go_simp
                 first
                   | done
                   | exact rfl
                   | ((go_at_call 49; refine (HT2.out _).mono ?_; rintro e w9 ⟨h1, h2⟩; exact ⟨h1, Below.trans (by assumption) (h2.mono (Below.size (by assumption)))⟩))
               (try simp only [Act.put, List.setIfInBounds_toArray, List.set_cons_zero, List.set_cons_succ])
               go_big_quiet_on))
          refine wpQuiet_nil ?_
          intro w5 hb5
          have hb5d : Below wr.heap.size wr w5 := hb5
          all_goals
            go_wp2
            go_roundw
            case rel => exact ⟨1, rfl, by omega, Lib.hid fun j hj => by
              obtain rfl : j = 0 := by omega
              exact HOK1.out, hB.trans (hb5d.mono hB.size)⟩
            case measure => simp [RowKit.intOf]; omega
      · have hqI : ¬ (q : Int) < (ns.length : Int) := by omega
        have HJ2 : Hid (J ↔ ∀ x ∈ is, FormedR x.j) := Lib.hid (HJ.out.trans ⟨fun h => h.2.2, fun h => ⟨⟨H1.out, H2.out, H3.out⟩, fun i hi => HQ.out i (by omega) hi, h⟩⟩)
        clear HJ HQ H1 H2 H3
        go_wp2
        go_loopw [4] (fun i wr => ∃ q : Nat, i = .int .i64 q ∧ q ≤ is.length ∧ Hid (∀ j (h : j < is.length), j < q → FormedR (is[j]).j) ∧ Below W.heap.size W wr) (fun i _ => is.length - (RowKit.intOf i).toNat)
        case atStart => exact ⟨0, rfl, Nat.zero_le _, Lib.hid fun j _ h => absurd h (by omega), hB⟩
        case round =>
          clear e3 hqI hlt hq hBF hFr lFr
          obtain ⟨q, rfl, hq, HQ, hB⟩ := hrel
          have hBF := hB0.trans (hB.mono hB0.size)
          have hFr := hF.below hB hF.lt
          have c4 : wr.cell? ⟨w.heap.size, 4, none⟩ = some (.slice Ai is.length ci) := hFr.cell 4
          by_cases hlt : q < is.length
          · have hqI : (q : Int) < (is.length : Int) := by omega
            obtain ⟨b, off, rfl, hb, hit, hcell⟩ := (hvW.below hB _).item hlt
            have HC := Lib.hid (ih is[q] wr (by have := LV.item_size (k := k) (n := n) (s := s) (An := An) (ns := ns) (cn := cn) (Ai := some ⟨b, off, none⟩) (ci := ci) hlt; omega) hit)
            have HP : Hid (∀ x, is[q] = x → ¬ FormedR x.j → ¬ J) := Lib.hid fun x hx hn h => hn (by rw [← hx]; exact HJ2.out.1 h _ (List.getElem_mem hlt))
            have HN : Hid (∀ x, is[q] = x → FormedR x.j → ∀ j (h : j < is.length), j < q + 1 → FormedR (is[j]).j) := Lib.hid fun x hx hn j h hj => by
              rcases Nat.lt_or_ge j q with h1 | h1
              · exact HQ.out j h h1
              · obtain rfl : j = q := by omega
                rw [hx]; exact hn
            obtain ⟨x, hx⟩ : ∃ x, is[q] = x := ⟨_, rfl⟩
            have HP1 := Lib.hid (HP.out x hx)
            have HN1 := Lib.hid (HN.out x hx)
            rw [hx] at HC hcell
            obtain ⟨k', n', s', An', ns', cn', Ai', is', ci'⟩ := x
            have d0 : wr.cell? ⟨b, off + q * 5, none⟩ = some (.int .i64 k') := hcell 0 _ rfl
            have d1 : wr.cell? ⟨b, off + q * 5 + 1, none⟩ = some (.int .i64 n') := hcell 1 _ rfl
            have d2 : wr.cell? ⟨b, off + q * 5 + 2, none⟩ = some (.string s') := hcell 2 _ rfl
            have d3 : wr.cell? ⟨b, off + q * 5 + 3, none⟩ = some (.slice An' ns'.length cn') := hcell 3 _ rfl
            have d4 : wr.cell? ⟨b, off + q * 5 + 4, none⟩ = some (.slice Ai' is'.length ci') := hcell 4 _ rfl
            clear hcell hx HP HN ih
            generalize FormedR (LV.mk k' n' s' An' ns' cn' Ai' is' ci').j = p at *
            go_wp2_with fail
            refine HC.out.mono ?_
            rintro e w2 ⟨⟨bb, rfl, hbb⟩, hb2⟩
            have HBB := Lib.hid hbb
            clear hbb
            cases bb with
            | false =>
              have HB1 : Hid (¬ p) := Lib.hid (fun h => by have := HBB.out.2 h; cases this)
              clear HBB
              go_wp2
              go_ret
              exact ⟨BoolIs.no (HP1.out HB1.out), hBF.trans (hb2.mono hBF.size)⟩
            | true =>
              have HB1 := Lib.hid (HBB.out.1 rfl)
              clear HBB
              go_wp2
              go_roundw
              case rel => exact ⟨q + 1, by go_num, by omega, Lib.hid (HN1.out HB1.out), hB.trans (hb2.mono hB.size)⟩
              case measure => simp [RowKit.intOf]; omega
          · have hqI : ¬ (q : Int) < (is.length : Int) := by omega
            have HY : Hid J := Lib.hid (HJ2.out.2 fun x hx => by
              obtain ⟨j, hj, rfl⟩ := List.mem_iff_getElem.1 hx
              exact HQ.out j hj (by omega))
            go_wp2
            go_ret
            exact ⟨BoolIs.yes HY.out, hBF⟩

set_option maxHeartbeats 2000000 in
theorem rformed_any (v : LV) (w : World) (hv : v.At w) : Calls Tryd.prog 24 #[v.val] w fun e w' => BoolIs (FormedP v.j 6) e ∧ Below w.heap.size w w' := by
  obtain ⟨k, n, s, An, ns, cn, Ai, is, ci⟩ := v
  obtain ⟨W, hW⟩ : ∃ W, W = w.alloc (.cells (valBlk k n s An ns cn Ai is ci) 25) := ⟨_, rfl⟩
  have hB0 : Below w.heap.size w W := by rw [hW]; exact (Below.refl _ _).alloc (Nat.le_refl _) _
  have hF : Blk W w.heap.size 25 (valBlk k n s An ns cn Ai is ci) := by rw [hW]; exact Blk.new w _ _
  have hvW := hv.below hB0 _
  have HC := Lib.hid (rdepth_any (.mk k n s An ns cn Ai is ci) W hvW)
  have HD : Hid (∀ w', Below W.heap.size W w' → Calls Tryd.prog 37 #[(LV.mk k n s An ns cn Ai is ci).val] w' fun e w'' => BoolIs (FormedR (LV.mk k n s An ns cn Ai is ci).j) e ∧ Below w'.heap.size w' w'') := Lib.hid fun w' hb => rformed0_any _ (.mk k n s An ns cn Ai is ci) w' (Nat.lt_succ_self _) (hvW.below hb _)
  have HB := Lib.hid (formed_both (LV.mk k n s An ns cn Ai is ci).j 6)
  have HW := Lib.hid hW
  clear hW hv hvW
  generalize FormedP (LV.mk k n s An ns cn Ai is ci).j 6 = D at *
  generalize FormedR (LV.mk k n s An ns cn Ai is ci).j = R at *
  have HB1 : Hid (D ↔ R ∧ depthJ (LV.mk k n s An ns cn Ai is ci).j 7 ≤ 6) := HB
  clear HB
  generalize depthJ (LV.mk k n s An ns cn Ai is ci).j 7 = d at *
  show Calls Tryd.prog 24 #[.agg (valBlk k n s An ns cn Ai is ci)] w _
  go_enter Tryd.func24, Tryd.ntmps24
  go_wp2_with fail
  rw [← HW.out]
  refine HC.out.mono ?_
  rintro e w2 ⟨rfl, hb2⟩
  have hF2 := hF.below hb2 hF.lt
  obtain ⟨c0, c1, c2, c3, c4⟩ : w2.cell? ⟨w.heap.size, 0, none⟩ = some (.int .i64 k) ∧ w2.cell? ⟨w.heap.size, 1, none⟩ = some (.int .i64 n) ∧ w2.cell? ⟨w.heap.size, 2, none⟩ = some (.string s) ∧ w2.cell? ⟨w.heap.size, 3, none⟩ = some (.slice An ns.length cn) ∧ w2.cell? ⟨w.heap.size, 4, none⟩ = some (.slice Ai is.length ci) := ⟨hF2.cell 0, hF2.cell 1, hF2.cell 2, hF2.cell 3, hF2.cell 4⟩
  have HD2 := Lib.hid (HD.out w2 hb2)
  have hBF := hB0.trans (hb2.mono hB0.size)
  by_cases hd : d ≤ 6
  · have hdI : (d : Int) ≤ 6 := by omega
    have HS : Hid (D ↔ R) := Lib.hid (HB1.out.trans ⟨fun h => h.1, fun h => ⟨h, hd⟩⟩)
    go_wp2_with fail
    refine HD2.out.mono ?_
    rintro e w3 ⟨⟨bb, rfl, hbb⟩, hb3⟩
    go_wp2
    go_ret
    exact ⟨⟨bb, rfl, hbb.trans HS.out.symm⟩, hBF.trans (hb3.mono hBF.size)⟩
  · have hdI : ¬ (d : Int) ≤ 6 := by omega
    have HS : Hid (¬ D) := Lib.hid fun h => hd (HB1.out.1 h).2
    go_wp2
    go_ret
    exact ⟨BoolIs.no HS.out, hBF⟩
end Go.Proofs.YtmobolefijneoaaDoor
