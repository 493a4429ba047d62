/-
  Plain: keys are ordered as the values are, and none is the other's beginning.
-/
import Derived.Test.YtpnbmgfnnmmokaaDoorQb
import Derived.Test.YtpnbmgfnnmmokaaDoorOg
import Derived.Test.YtpnbmgfnnmmokaaDoorLq
set_option linter.unusedVariables false
namespace Go.Proofs.YtpnbmgfnnmmokaaDoor
open Go.RowKit

/-- Two rows that differ at a place that both have; c tells which is the less. -/
def Apart (x y : List Int) (c : Int) : Prop := ∃ p a b r s, x = p ++ a :: r ∧ y = p ++ b :: s ∧ ((a < b ∧ c = -1) ∨ (b < a ∧ c = 1))
theorem Apart.front {x y : List Int} {c : Int} (h : Apart x y c) (q : List Int) : Apart (q ++ x) (q ++ y) c := by
  obtain ⟨p, a, b, r, s, rfl, rfl, h⟩ := h
  exact ⟨q ++ p, a, b, r, s, by simp, by simp, h⟩
theorem Apart.cons {x y : List Int} {c : Int} (h : Apart x y c) (q : Int) : Apart (q :: x) (q :: y) c := h.front [q]
theorem Apart.back {x y : List Int} {c : Int} (h : Apart x y c) (u v : List Int) : Apart (x ++ u) (y ++ v) c := by
  obtain ⟨p, a, b, r, s, rfl, rfl, h⟩ := h
  exact ⟨p, a, b, r ++ u, s ++ v, by simp, by simp, h⟩
theorem Apart.turn {x y : List Int} {c : Int} (h : Apart x y c) : Apart y x (-c) := by
  obtain ⟨p, a, b, r, s, rfl, rfl, h⟩ := h
  exact ⟨p, b, a, s, r, rfl, rfl, by omega⟩
theorem Apart.now {a b c : Int} (r s : List Int) (h : (a < b ∧ c = -1) ∨ (b < a ∧ c = 1)) : Apart (a :: r) (b :: s) c := ⟨[], a, b, r, s, rfl, rfl, h⟩
theorem Apart.less {x y : List Int} {c : Int} (h : Apart x y c) : lessB x y = decide (c < 0) := by
  obtain ⟨p, a, b, r, s, rfl, rfl, h⟩ := h
  rw [lessB_app, lessB, if_neg (by omega)]
  congr 1
  apply propext
  omega
theorem Apart.ne {x y : List Int} {c : Int} (h : Apart x y c) : x ≠ y := by
  obtain ⟨p, a, b, r, s, rfl, rfl, h⟩ := h
  intro e
  have := List.append_cancel_left e
  injection this with e1
  omega
theorem Apart.nz {x y : List Int} {c : Int} (h : Apart x y c) : c ≠ 0 := by
  obtain ⟨p, a, b, r, s, rfl, rfl, h⟩ := h
  omega
/-- None is the other's beginning. -/
theorem Apart.take {x y : List Int} {c : Int} (h : Apart x y c) {n : Nat} (hn : n = min x.length y.length) : x.take n ≠ y.take n := by
  obtain ⟨p, a, b, r, s, rfl, rfl, h⟩ := h
  intro e
  have h1 := congrArg (fun l => l[p.length]?) e
  simp only [List.length_append, List.length_cons] at hn
  simp only [List.getElem?_take, if_pos (show p.length < n by omega)] at h1
  rw [List.getElem?_append_right (Nat.le_refl _), List.getElem?_append_right (Nat.le_refl _)] at h1
  simp at h1
  omega

theorem num_mono : ∀ (l m : List Int) (x y : Int), l.length = m.length → Oct l → Oct m → x < y → num l x < num m y
  | [], [], x, y, _, _, _, h => by simpa [num] using h
  | [], _ :: _, _, _, h, _, _, _ => by simp at h
  | _ :: _, [], _, _, h, _, _, _ => by simp at h
  | c :: l, d :: m, x, y, h, hl, hm, hlt => by
    have h1 := hl c (by simp)
    have h2 := hm d (by simp)
    rw [num, num]
    exact num_mono l m _ _ (by simpa using h) (fun z hz => hl z (by simp [hz])) (fun z hz => hm z (by simp [hz])) (by omega)
/-- Rows of one length: the same, or apart, as their numbers are. -/
theorem num_apart : ∀ (l m : List Int) (x : Int), l.length = m.length → Oct l → Oct m → (l = m) ∨ (Apart l m (-1) ∧ num l x < num m x) ∨ (Apart l m 1 ∧ num m x < num l x)
  | [], [], x, _, _, _ => .inl rfl
  | [], _ :: _, _, h, _, _ => by simp at h
  | _ :: _, [], _, h, _, _ => by simp at h
  | c :: l, d :: m, x, h, hl, hm => by
    have h1 := hl c (by simp)
    have h2 := hm d (by simp)
    have ol : Oct l := fun z hz => hl z (by simp [hz])
    have om : Oct m := fun z hz => hm z (by simp [hz])
    have hlen : l.length = m.length := by simpa using h
    rw [num, num]
    rcases Int.lt_trichotomy c d with hc | hc | hc
    · exact .inr (.inl ⟨.now _ _ (.inl ⟨hc, rfl⟩), num_mono l m _ _ hlen ol om (by omega)⟩)
    · subst hc
      rcases num_apart l m (x * 256 + c) hlen ol om with e | ⟨e1, e2⟩ | ⟨e1, e2⟩
      · exact .inl (by rw [e])
      · exact .inr (.inl ⟨e1.cons c, e2⟩)
      · exact .inr (.inr ⟨e1.cons c, e2⟩)
    · exact .inr (.inr ⟨.now _ _ (.inr ⟨hc, rfl⟩), num_mono m l _ _ hlen.symm om ol (by omega)⟩)
theorem be64_apart {a b : Int} (ha : -9223372036854775808 ≤ a ∧ a ≤ 9223372036854775807) (hb : -9223372036854775808 ≤ b ∧ b ≤ 9223372036854775807) (h : cmpI a b ≠ 0) : Apart (be64 (ordN a)) (be64 (ordN b)) (cmpI a b) := by
  have e1 := num_be64 (ordN a) (by unfold ordN; omega) (by unfold ordN; omega)
  have e2 := num_be64 (ordN b) (by unfold ordN; omega) (by unfold ordN; omega)
  rcases num_apart (be64 (ordN a)) (be64 (ordN b)) 0 rfl (be64_oct _) (be64_oct _) with e | ⟨g1, g2⟩ | ⟨g1, g2⟩
  · rw [e, e2] at e1
    unfold ordN at e1
    have : a = b := by omega
    subst this
    rcases cmpI_cases a a with ⟨h1, e1⟩ | ⟨h1, e1⟩ | ⟨h1, e1⟩ <;> omega
  · rw [e1, e2] at g2
    unfold ordN at g2
    rcases cmpI_cases a b with ⟨h1, e1⟩ | ⟨h1, e1⟩ | ⟨h1, e1⟩
    · rw [e1]; exact g1
    · omega
    · omega
  · rw [e1, e2] at g2
    unfold ordN at g2
    rcases cmpI_cases a b with ⟨h1, e1⟩ | ⟨h1, e1⟩ | ⟨h1, e1⟩
    · omega
    · rw [e1]; exact g1
    · omega
theorem u8_zero (b : UInt8) : b = 0 ↔ b.toNat = 0 := by rw [← UInt8.toNat_inj]; rfl
theorem escL_apart : ∀ (a b : List UInt8), cmpL a b ≠ 0 → Apart (escL a ++ [0, 0]) (escL b ++ [0, 0]) (cmpL a b)
  | [], [], h => by simp [cmpL] at h
  | [], b :: bs, h => by
    rw [cmpL, escL, escL]
    by_cases h0 : b = 0
    · rw [if_pos h0]
      exact Apart.cons (.now _ _ (.inl ⟨by omega, rfl⟩)) 0
    · rw [if_neg h0]
      rw [u8_zero] at h0
      exact .now _ _ (.inl ⟨by omega, rfl⟩)
  | a :: xs, [], h => by
    rw [cmpL, escL, escL]
    by_cases h0 : a = 0
    · rw [if_pos h0]
      exact Apart.cons (.now _ _ (.inr ⟨by omega, rfl⟩)) 0
    · rw [if_neg h0]
      rw [u8_zero] at h0
      exact .now _ _ (.inr ⟨by omega, rfl⟩)
  | a :: xs, b :: bs, h => by
    rw [cmpL_cons] at h ⊢
    rw [escL, escL]
    rcases cmpI_cases (a.toNat : Int) b.toNat with ⟨h1, e1⟩ | ⟨h1, e1⟩ | ⟨h1, e1⟩
    · rw [e1, if_pos (show (-1 : Int) ≠ 0 by decide)]
      by_cases hb : b = 0
      · rw [u8_zero] at hb; omega
      · rw [if_neg hb]
        by_cases ha : a = 0
        · rw [if_pos ha]
          rw [u8_zero] at ha
          exact .now _ _ (.inl ⟨by omega, rfl⟩)
        · rw [if_neg ha]
          exact .now _ _ (.inl ⟨by omega, rfl⟩)
    · rw [e1, if_pos (show (1 : Int) ≠ 0 by decide)]
      by_cases ha : a = 0
      · rw [u8_zero] at ha; omega
      · rw [if_neg ha]
        by_cases hb : b = 0
        · rw [if_pos hb]
          rw [u8_zero] at hb
          exact .now _ _ (.inr ⟨by omega, rfl⟩)
        · rw [if_neg hb]
          exact .now _ _ (.inr ⟨by omega, rfl⟩)
    · have hab : a = b := by rw [← UInt8.toNat_inj]; omega
      subst hab
      rw [e1] at h ⊢
      rw [if_neg (show ¬ ((0 : Int) ≠ 0) by decide)] at h ⊢
      rw [List.append_assoc, List.append_assoc]
      exact (escL_apart xs bs h).front _
theorem textK_apart {a b : ByteArray} (h : cmpS a b ≠ 0) : Apart (textK a) (textK b) (cmpS a b) := escL_apart _ _ h

theorem lex_if {x x' : Int} : ((if x ≠ 0 then x else x') = x ∧ x ≠ 0) ∨ ((if x ≠ 0 then x else x') = x' ∧ x = 0) := by
  by_cases h : x = 0
  · right; rw [if_neg (by simpa using h)]; exact ⟨rfl, h⟩
  · left; rw [if_pos h]; exact ⟨rfl, h⟩
/-- Numbers of values lie within the language's. -/
def NumsOK : JV → Prop
  | .mk _ n _ _ is => (-9223372036854775808 ≤ n ∧ n ≤ 9223372036854775807) ∧ ∀ x ∈ is, NumsOK x
theorem numsOK_iff (k n : Int) (s : ByteArray) (ns : List ByteArray) (is : List JV) : NumsOK (.mk k n s ns is) ↔ (-9223372036854775808 ≤ n ∧ n ≤ 9223372036854775807) ∧ ∀ x ∈ is, NumsOK x := by rw [NumsOK]
mutual
theorem LV.At.nums {w : World} : ∀ v : LV, v.At w → NumsOK v.j
  | .mk k n s An ns cn Ai is ci, h => by
    unfold LV.At at h
    rw [LV.j, numsOK_iff]
    exact ⟨h.2.2.2.2.1, LV.AllAt.nums is h.2.2.1⟩
theorem LV.AllAt.nums {w : World} : ∀ is : List LV, LV.AllAt w is → ∀ x ∈ LV.js is, NumsOK x
  | [], _, x, hx => by rw [LV.js] at hx; cases hx
  | v :: vs, h, x, hx => by
    rw [LV.js] at hx
    rcases List.mem_cons.1 hx with rfl | hx
    · exact LV.At.nums v h.1
    · exact LV.AllAt.nums vs h.2 x hx
end
theorem keyJ_head (j : JV) (left : Nat) (h : FormedP j left) : ∃ c r, keyJ j = c :: r ∧ 1 ≤ c := by
  obtain ⟨k, n, s, ns, is⟩ := j
  rw [FormedP] at h
  have h0 := h.2.1.1
  rw [keyJ]
  exact ⟨_, _, rfl, by omega⟩
theorem empty_same {s t : ByteArray} (hs : s.toList = []) (ht : t.toList = []) : s = t := by
  rw [ByteArray.toList_eq] at hs ht
  cases s; cases t
  simp only [ByteArray.mk.injEq]
  exact Array.ext' (hs.trans ht.symm)
theorem cmpS_self (s : ByteArray) : cmpS s s = 0 := (cmpL_zero _ _).2 rfl
mutual
theorem keyJ_apart : ∀ (a b : JV) (left left2 : Nat), FormedP a left → FormedP b left2 → NumsOK a → NumsOK b → cmpJ a b ≠ 0 → Apart (keyJ a) (keyJ b) (cmpJ a b)
  | .mk k n s ns is, .mk k2 n2 s2 ns2 is2, left, left2, hf, hf2, hn, hn2, h => by
    rw [FormedP] at hf hf2
    obtain ⟨_, ho, _, ha⟩ := hf
    obtain ⟨_, ho2, _, ha2⟩ := hf2
    rw [numsOK_iff] at hn hn2
    by_cases hk : k = k2
    · subst hk
      have hR : rowsJ (decide (k = 6)) is is2 ns ns2 ≠ 0 → Apart (keyRows (decide (k = 6)) is ns ++ [0]) (keyRows (decide (k = 6)) is2 ns2 ++ [0]) (rowsJ (decide (k = 6)) is is2 ns ns2) := fun hr => keyRows_apart (decide (k = 6)) is is2 ns ns2 _ _ ha ha2 hn.2 hn2.2 hr
      rw [cmpJ] at h ⊢
      rw [keyJ, keyJ]
      have hrow0 : k < 5 → rowsJ (decide (k = 6)) is is2 ns ns2 = 0 := fun h5 => by
        have z1 := (ho.2.2.2.2.2.1 h5).1
        have z2 := (ho2.2.2.2.2.2.1 h5).1
        rw [List.eq_nil_of_length_eq_zero z1, List.eq_nil_of_length_eq_zero z2, rowsJ]
      have hs0 : k ≠ 4 → cmpS s s2 = 0 := fun h4 => by rw [empty_same (ho.2.2.2.1 h4) (ho2.2.2.2.1 h4)]; exact cmpS_self _
      have hn0 : k ≠ 3 → cmpI n n2 = 0 := fun h3 => by rw [ho.2.2.1 h3, ho2.2.2.1 h3]; exact cmpI_self _
      refine Apart.cons ?_ _
      simp only [firstNZ, cmpI_self, ne_eq, not_true_eq_false, ↓reduceIte] at h ⊢
      by_cases h3 : k = 3
      · rw [hrow0 (by omega), hs0 (by omega)] at h ⊢
        rw [if_pos h3, if_pos h3]
        by_cases hc : cmpI n n2 = 0
        · simp [hc] at h
        · simp only [hc, not_false_eq_true, ↓reduceIte]
          exact be64_apart hn.1 hn2.1 hc
      · rw [if_neg h3, if_neg h3]
        rw [hn0 h3] at h ⊢
        by_cases h4 : k = 4
        · rw [hrow0 (by omega)] at h ⊢
          rw [if_pos h4, if_pos h4]
          by_cases hc : cmpS s s2 = 0
          · simp [hc] at h
          · simp only [hc, not_true_eq_false, not_false_eq_true, ↓reduceIte]
            exact textK_apart hc
        · rw [hs0 h4] at h ⊢
          rw [if_neg h4, if_neg h4]
          simp only [not_true_eq_false, ↓reduceIte] at h ⊢
          by_cases h5 : k = 5 ∨ k = 6
          · rw [if_pos h5, if_pos h5]
            exact hR h
          · exact absurd (hrow0 (by have := ho.2.1; omega)) h
    · rw [cmpJ] at h ⊢
      have hk0 : cmpI k k2 ≠ 0 := fun e => hk (cmpI_eq e)
      have e : firstNZ [cmpI k k2, cmpI n n2, cmpS s s2] = cmpI k k2 := by simp only [firstNZ]; rw [if_pos hk0]
      rw [e, if_pos hk0, keyJ, keyJ]
      refine .now _ _ ?_
      rcases cmpI_cases k k2 with ⟨h1, e1⟩ | ⟨h1, e1⟩ | ⟨h1, e1⟩
      · left; omega
      · right; omega
      · omega
theorem keyRows_apart (ob : Bool) : ∀ (is is2 : List JV) (ns ns2 : List ByteArray) (left left2 : Nat), FormedAll is left → FormedAll is2 left2 → (∀ x ∈ is, NumsOK x) → (∀ x ∈ is2, NumsOK x) → rowsJ ob is is2 ns ns2 ≠ 0 →
    Apart (keyRows ob is ns ++ [0]) (keyRows ob is2 ns2 ++ [0]) (rowsJ ob is is2 ns ns2)
  | [], [], _, _, _, _, _, _, _, _, h => by simp [rowsJ] at h
  | [], y :: ys, ns, ns2, left, left2, _, hf2, _, _, h => by
    rw [rowsJ, keyRows, keyRows]
    cases ob
    · obtain ⟨c, r, e, hc⟩ := keyJ_head y _ hf2.1
      rw [e]
      exact .now _ _ (.inl ⟨by omega, rfl⟩)
    · exact .now _ _ (.inl ⟨by omega, rfl⟩)
  | x :: xs, [], ns, ns2, left, left2, hf, _, _, _, h => by
    rw [rowsJ, keyRows, keyRows]
    cases ob
    · obtain ⟨c, r, e, hc⟩ := keyJ_head x _ hf.1
      rw [e]
      exact .now _ _ (.inr ⟨by omega, rfl⟩)
    · exact .now _ _ (.inr ⟨by omega, rfl⟩)
  | x :: xs, y :: ys, ns, ns2, left, left2, hf, hf2, hn, hn2, h => by
    have hx := keyJ_apart x y _ _ hf.1 hf2.1 (hn x (by simp)) (hn2 y (by simp))
    have hr := keyRows_apart ob xs ys ns.tail ns2.tail _ _ hf.2 hf2.2 (fun z hz => hn z (by simp [hz])) (fun z hz => hn2 z (by simp [hz]))
    have hs := cmpJ_same x y _ _ hf.1 hf2.1
    rw [rowsJ] at h ⊢
    rw [keyRows, keyRows, List.append_assoc, List.append_assoc, List.append_assoc, List.append_assoc]
    generalize ns.headD ⟨#[]⟩ = a at *
    generalize ns2.headD ⟨#[]⟩ = b at *
    rcases lex_if (x := nameC ob a b) (x' := if cmpJ x y ≠ 0 then cmpJ x y else rowsJ ob xs ys ns.tail ns2.tail) with ⟨e, h0⟩ | ⟨e, h0⟩
    · rw [e]
      cases ob
      · exact absurd rfl h0
      · exact Apart.cons ((textK_apart h0).back _ _) 1
    · rw [e] at h ⊢
      have hpre : (if ob = true then 1 :: textK a else []) = (if ob = true then 1 :: textK b else []) := by
        cases ob
        · rfl
        · rw [cmpS_eq h0]
      rw [hpre]
      refine Apart.front ?_ _
      rcases lex_if (x := cmpJ x y) (x' := rowsJ ob xs ys ns.tail ns2.tail) with ⟨e1, h1⟩ | ⟨e1, h1⟩
      · rw [e1]
        exact (hx h1).back _ _
      · rw [e1] at h ⊢
        rw [hs h1]
        exact (hr h).front _
end
/-- What KeysOrder asks. -/
theorem key_order {a b : JV} {left left2 : Nat} (hf : FormedP a left) (hf2 : FormedP b left2) (hn : NumsOK a) (hn2 : NumsOK b) :
    lessB (keyJ a) (keyJ b) = decide (cmpJ a b < 0) ∧ (keyJ a = keyJ b ↔ cmpJ a b = 0) ∧ (cmpJ a b ≠ 0 → (keyJ a).take (min (keyJ a).length (keyJ b).length) ≠ (keyJ b).take (min (keyJ a).length (keyJ b).length)) := by
  by_cases h : cmpJ a b = 0
  · have e := cmpJ_same a b _ _ hf hf2 h
    subst e
    exact ⟨by rw [lessB_self, h]; rfl, by simp [h], fun h' => absurd h h'⟩
  · have hA := keyJ_apart a b _ _ hf hf2 hn hn2 h
    exact ⟨hA.less, ⟨fun e => absurd e hA.ne, fun e => absurd e h⟩, fun _ => hA.take rfl⟩
end Go.Proofs.YtpnbmgfnnmmokaaDoor
