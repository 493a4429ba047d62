/-
  slices.stableCmpFunc: blocks that are sorted, plain; its walk.
-/
import Derived.Test.YtmobolefijneoaaDoorOp
set_option linter.unusedVariables false
namespace Go.Proofs.YtmobolefijneoaaDoor
open Go.RowKit Go.Joins Go.Deep

theorem SortOn.moved_out {l t : List JV} {a b x y : Nat} (h : SortOn l x y) (hM : Moved l t a b) (hd : y ≤ a ∨ b ≤ x) : SortOn t x y := h.apart hM hd
/-- All blocks of k values, up to n, are sorted. -/
def Blocks (l : List JV) (k n : Nat) : Prop := ∀ q, q * k < n → SortOn l (q * k) (min (q * k + k) n)
theorem Blocks.whole {l : List JV} {k n : Nat} (h : Blocks l k n) (hk : n ≤ k) : SortOn l 0 n := by
  by_cases hn : n = 0
  · subst hn; exact SortOn.few (by omega)
  · have := h 0 (by omega)
    rw [Nat.zero_mul, Nat.zero_add, Nat.min_eq_right hk] at this
    exact this
/-- The first blocks, up to a, are sorted. -/
def Front (l : List JV) (k a : Nat) : Prop := ∃ j, a = j * k ∧ ∀ q, q < j → SortOn l (q * k) (q * k + k)
theorem Front.zero (l : List JV) (k : Nat) : Front l k 0 := ⟨0, by omega, fun q h => by omega⟩
theorem Front.step {l t : List JV} {k a : Nat} (h : Front l k a) (hM : Moved l t a (a + k)) (hS : SortOn t a (a + k)) : Front t k (a + k) := by
  obtain ⟨j, rfl, h⟩ := h
  refine ⟨j + 1, (Nat.succ_mul j k).symm, fun q hq => ?_⟩
  by_cases e : q = j
  · subst e; exact hS
  · have hle : q * k + k ≤ j * k := by
      have := Nat.mul_le_mul_right k (show q + 1 ≤ j by omega)
      rw [Nat.succ_mul] at this
      exact this
    exact (h q (by omega)).apart hM (.inl hle)
theorem Front.fin {l t : List JV} {k a n : Nat} (h : Front l k a) (ha : n < a + k) (hM : Moved l t a n) (hS : SortOn t a n) : Blocks t k n := by
  obtain ⟨j, rfl, h⟩ := h
  intro q hq
  by_cases e : q < j
  · have hle : q * k + k ≤ j * k := by
      have := Nat.mul_le_mul_right k (show q + 1 ≤ j by omega)
      rw [Nat.succ_mul] at this
      exact this
    exact ((h q e).apart hM (.inl hle)).mono (Nat.le_refl _) (Nat.min_le_left _ _)
  · have hle := Nat.mul_le_mul_right k (show j ≤ q by omega)
    exact hS.mono hle (Nat.min_le_right _ _)
/-- Blocks of twice as many: those up to a are sorted, of those behind both halves. -/
def Twice (l : List JV) (k n a : Nat) : Prop := Front l (2 * k) a ∧ ∀ q, a ≤ q * k → q * k < n → SortOn l (q * k) (min (q * k + k) n)
theorem Twice.start {l : List JV} {k n : Nat} (h : Blocks l k n) : Twice l k n 0 := ⟨Front.zero _ _, fun q _ hq => h q hq⟩
theorem Twice.halves {l : List JV} {k n a : Nat} (h : Twice l k n a) (ha : a + k < n) : SortOn l a (a + k) ∧ SortOn l (a + k) (min (a + 2 * k) n) := by
  obtain ⟨⟨j, rfl, _⟩, h⟩ := h
  have e1 : j * (2 * k) = (2 * j) * k := by rw [Nat.mul_comm 2 j, Nat.mul_assoc]
  have e2 : (2 * j) * k + k = (2 * j + 1) * k := (Nat.succ_mul _ _).symm
  have h1 := h (2 * j) (by omega) (by omega)
  have h2 := h (2 * j + 1) (by omega) (by omega)
  rw [← e2] at h2
  rw [e1]
  refine ⟨h1.mono (Nat.le_refl _) (by omega), h2.mono (Nat.le_refl _) ?_⟩
  rw [show (2 * j) * k + k + k = 2 * j * k + 2 * k by omega]
  exact Nat.le_refl _
theorem Twice.step {l t : List JV} {k n a : Nat} (h : Twice l k n a) (hM : Moved l t a (a + 2 * k)) (hS : SortOn t a (a + 2 * k)) : Twice t k n (a + 2 * k) :=
  ⟨h.1.step hM hS, fun q h1 h2 => (h.2 q (by omega) h2).apart hM (.inr h1)⟩
theorem Twice.done {l t : List JV} {k n a : Nat} (h : Twice l k n a) (hk : 0 < k) (ha : n < a + 2 * k) (hM : Moved l t a n) (hS : a + k < n → SortOn t a n) (hN : ¬ a + k < n → t = l) : Blocks t (2 * k) n := by
  by_cases hlt : a + k < n
  · exact h.1.fin ha hM (hS hlt)
  · have e := hN hlt
    subst e
    refine h.1.fin ha hM ?_
    by_cases han : a < n
    · obtain ⟨⟨j, rfl, _⟩, h⟩ := h
      have e1 : j * (2 * k) = (2 * j) * k := by rw [Nat.mul_comm 2 j, Nat.mul_assoc]
      have h1 := h (2 * j) (by omega) (by omega)
      rw [e1]
      exact h1.mono (Nat.le_refl _) (by omega)
    · exact SortOn.few (by omega)

set_option maxHeartbeats 8000000 in
set_option maxRecDepth 100000 in
theorem stable_any (w0 w : World) (g L c : Nat) (is : List LV) (N : Int) (hN : N = L) (hL : L = is.length) (hc : L ≤ c) (hm : L ≤ 1000) (hR : RowIs w0 g is w) :
    Calls Tryd.prog 44 #[.slice (some ⟨g, 0, none⟩) L c, .int .i64 N, .func (.func 23) #[] #[]] w (MergeRes w0 g 0 L L is) := by
  subst hN
  go_enter Tryd.func44, Tryd.ntmps44
  go_wp2
  go_loopw [7, 8] (fun va vb wr => ∃ (a b : Nat) (ir : List LV), va = .int .i64 a ∧ vb = .int .i64 b ∧ b = a + 20 ∧ a ≤ L ∧ RowIs w0 g ir wr ∧ Hid (L = ir.length) ∧ Hid (Front (LV.js ir) 20 a) ∧ Hid (Moved (LV.js is) (LV.js ir) 0 L)) (fun va _ _ => L - (RowKit.intOf va).toNat)
  case atStart => exact ⟨0, 20, is, rfl, rfl, rfl, Nat.zero_le _, hR, Lib.hid hL, Lib.hid (Front.zero _ _), Lib.hid (Moved.refl _ _ _)⟩
  case round =>
    clear hR hL
    obtain ⟨a, b, ir, rfl, rfl, hab, haL, hRr, HLr, HF, HM⟩ := hrel
    have HAB := Lib.hid hab
    by_cases hlt : b ≤ L
    · have hltI : (b : Int) ≤ (L : Int) := by omega
      have hab2 : a ≤ b := by omega
      clear hab
      go_wp2_with fail
      refine (insert_any w0 _ g a b L c ir (a : Int) (b : Int) rfl rfl HLr.out hc hm hab2 hlt hRr).mono ?_
      rintro e w1 ⟨rfl, it, h1, h2, h3, h4⟩
      have H3 := Lib.hid h3
      have H4 := Lib.hid h4
      have H2 := Lib.hid h2
      clear h2 h3 h4
      go_wp2
      go_roundw
      case measure => have := HAB.out; simp [RowKit.intOf]; omega
      case rel =>
        have hb := HAB.out
        refine ⟨b, b + 20, it, rfl, by go_num, rfl, hlt, h1, Lib.hid H2.out.symm, Lib.hid ?_, Lib.hid (HM.out.trans (H4.out.mono (Nat.zero_le _) hlt))⟩
        have := HF.out.step (t := LV.js it) (by rw [← hb]; exact H4.out) (by rw [← hb]; exact H3.out)
        rw [hb]; exact this
    · have hltI : ¬ (b : Int) ≤ (L : Int) := by omega
      have hbL : b ≤ 1020 := by omega
      clear hab
      go_wp2_with fail
      refine (insert_any w0 _ g a L L c ir (a : Int) (L : Int) rfl rfl HLr.out hc hm haL (Nat.le_refl _) hRr).mono ?_
      rintro e w1 ⟨rfl, it, h1, h2, h3, h4⟩
      have HB := Lib.hid (HF.out.fin (by have := HAB.out; omega) h4 h3)
      have HMt := Lib.hid (HM.out.trans (h4.mono (Nat.zero_le _) (Nat.le_refl _)))
      have H2 := Lib.hid h2
      clear h2 h3 h4 HF HM hRr HLr HAB hltI hlt haL hbL
      go_wp2
      go_loopw [6] (fun vk wr => ∃ (k : Nat) (ir : List LV), vk = .int .i64 k ∧ 0 < k ∧ k ≤ 2000 ∧ RowIs w0 g ir wr ∧ Hid (L = ir.length) ∧ Hid (Blocks (LV.js ir) k L) ∧ Hid (Moved (LV.js is) (LV.js ir) 0 L)) (fun vk _ => 2000 - (RowKit.intOf vk).toNat)
      case atStart => exact ⟨20, it, rfl, by omega, by omega, h1, Lib.hid H2.out.symm, HB, HMt⟩
      case round =>
        clear h1 H2 HB HMt
        obtain ⟨k, ir, rfl, hk0, hk2, hRr, HLr, HB, HM⟩ := hrel
        by_cases hkL : k < L
        · have hkLI : (k : Int) < (L : Int) := by omega
          have hk1 : k ≤ 1000 := by omega
          go_wp2
          go_loopw [7, 8] (fun va vb wq => ∃ (a b : Nat) (ir : List LV), va = .int .i64 a ∧ vb = .int .i64 b ∧ Hid (b = a + 2 * k) ∧ a ≤ L ∧ b ≤ 3000 ∧ RowIs w0 g ir wq ∧ Hid (L = ir.length) ∧ Hid (Twice (LV.js ir) k L a) ∧ Hid (Moved (LV.js is) (LV.js ir) 0 L)) (fun va _ _ => L - (RowKit.intOf va).toNat)
          case atStart => exact ⟨0, 2 * k, ir, by first | rfl | go_num, by go_num, Lib.hid (by omega), Nat.zero_le _, by omega, hRr, HLr, Lib.hid (Twice.start HB.out), HM⟩
          case round =>
            clear hRr HLr HB HM
            obtain ⟨a, b, ij, rfl, rfl, HAB, haL, hb3, hRj, HLj, HT, HM⟩ := hrel
            by_cases hlt : b ≤ L
            · have hltI : (b : Int) ≤ (L : Int) := by omega
              obtain ⟨m, hmm⟩ : ∃ m, m = a + k := ⟨_, rfl⟩
              have HMM := Lib.hid hmm
              have HH := Lib.hid (HT.out.halves (by have := HAB.out; omega))
              go_wp2_with fail
              refine (merge_any w0 g L c hc hm (b - a + 1) a m b ij _ (by omega) (by omega) (by have := HAB.out; omega) hlt HLj.out hRj (by rw [HMM.out]; exact HH.out.1) (by rw [HMM.out]; exact HH.out.2.mono (Nat.le_refl _) (by have := HAB.out; omega)) _ _ _ rfl (by omega) rfl).mono ?_
              rintro e w1 ⟨rfl, it, h1, h2, h3, h4⟩
              have H3 := Lib.hid h3
              have H4 := Lib.hid h4
              have H2 := Lib.hid h2
              clear h2 h3 h4 hmm
              go_wp2
              go_roundw
              case measure => have := HAB.out; simp [RowKit.intOf]; omega
              case rel =>
                have hb := HAB.out
                refine ⟨b, b + 2 * k, it, rfl, by go_num, Lib.hid rfl, hlt, by omega, h1, Lib.hid H2.out.symm, Lib.hid ?_, Lib.hid (HM.out.trans (H4.out.mono (Nat.zero_le _) hlt))⟩
                have := HT.out.step (t := LV.js it) (by rw [← hb]; exact H4.out) (by rw [← hb]; exact H3.out)
                rw [hb]; exact this
            · have hltI : ¬ (b : Int) ≤ (L : Int) := by omega
              obtain ⟨m, hmm⟩ : ∃ m, m = a + k := ⟨_, rfl⟩
              have HMM := Lib.hid hmm
              have hmI : IntKind.i64.wrap ((a : Int) + (k : Int)) = (m : Int) := by rw [IntKind.wrap_i64]; omega
              have hm2 : m ≤ 2000 := by omega
              by_cases hmL : m < L
              · have hmLI : (m : Int) < (L : Int) := by omega
                have HH := Lib.hid (HT.out.halves (by omega))
                clear hmm
                go_wp2_with fail
                refine (merge_any w0 g L c hc hm (L - a + 1) a m L ij _ (by omega) (by have := HMM.out; omega) hmL (Nat.le_refl _) HLj.out hRj (by rw [HMM.out]; exact HH.out.1) (by rw [HMM.out]; exact HH.out.2.mono (Nat.le_refl _) (by have := HAB.out; omega)) _ _ _ rfl rfl rfl).mono ?_
                rintro e w1 ⟨rfl, it, h1, h2, h3, h4⟩
                have HD := Lib.hid (HT.out.done hk0 (by have := HAB.out; omega) h4 (fun _ => h3) (fun h => absurd (by have := HMM.out; omega) h))
                have H4 := Lib.hid h4
                have H2 := Lib.hid h2
                clear h2 h3 h4
                go_wp2
                go_roundw
                case measure => simp [RowKit.intOf]; omega
                case rel => exact ⟨2 * k, it, by go_num, by omega, by omega, h1, Lib.hid H2.out.symm, HD, Lib.hid (HM.out.trans (H4.out.mono (Nat.zero_le _) (Nat.le_refl _)))⟩
              · have hmLI : ¬ (m : Int) < (L : Int) := by omega
                have HD := Lib.hid (HT.out.done hk0 (by have := HAB.out; omega) (Moved.refl _ _ _) (fun h => absurd h (by omega)) (fun _ => rfl))
                clear hmm
                go_wp2
                go_roundw
                case measure => simp [RowKit.intOf]; omega
                case rel => exact ⟨2 * k, ij, by go_num, by omega, by omega, hRj, HLj, HD, HM⟩
        · have hkLI : ¬ (k : Int) < (L : Int) := by omega
          go_wp2
          go_end0
          exact ⟨rfl, ir, hRr, HLr.out.symm, HB.out.whole (by omega), HM.out⟩
end Go.Proofs.YtmobolefijneoaaDoor
