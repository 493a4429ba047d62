/-
  Which values are formed, plain; the contracts of both text functions.
-/
import Derived.Test.YtmobolefijneoaaDoorWc
import Derived.Test.YtmobolefijneoaaDoorUb
import Derived.Test.YtmobolefijneoaaDoorUc
import Derived.Laws.Cover1
set_option linter.unusedVariables false
namespace Go.Proofs.YtmobolefijneoaaDoor
open Go.RowKit

/-- A String's text, a name. -/
def TextP (s : ByteArray) : Prop := s.size ≤ 60 ∧ Lib.validD s.data.toList = true
/-- A value's head: what its kind asks of the rest. -/
def HeadOK (k n : Int) (s : ByteArray) (nn ni : Nat) : Prop :=
  0 ≤ k ∧ k ≤ 6 ∧ (k ≠ 3 → n = 0) ∧ (k ≠ 4 → s.toList = []) ∧ TextP s ∧ (k < 5 → ni = 0 ∧ nn = 0) ∧ (5 ≤ k → ni ≤ 24 ∧ (k = 6 → nn = ni) ∧ (k ≠ 6 → nn = 0))
/-- A name is a text, and above the one ahead. -/
def NameOK (ns : List ByteArray) (i : Nat) : Prop := ∀ h : i < ns.length, TextP (ns[i]) ∧ ∀ h0 : 0 < i, Op.bytesLess (ns[i - 1]).toList (ns[i]).toList = true
def NamesOK (ns : List ByteArray) : Prop := ∀ i, NameOK ns i
mutual
/-- A formed value, at most so deep. -/
def FormedP : JV → Nat → Prop
  | .mk k n s ns is, left => left ≠ 0 ∧ HeadOK k n s ns.length is.length ∧ NamesOK ns ∧ FormedAll is (left - 1)
def FormedAll : List JV → Nat → Prop
  | [], _ => True
  | x :: xs, left => FormedP x left ∧ FormedAll xs left
end
mutual
/-- A formed value, however deep. -/
def FormedR : JV → Prop
  | .mk k n s ns is => HeadOK k n s ns.length is.length ∧ NamesOK ns ∧ FormedRAll is
def FormedRAll : List JV → Prop
  | [] => True
  | x :: xs => FormedR x ∧ FormedRAll xs
end
mutual
/-- How deep, at most so much. -/
def depthJ : JV → Nat → Nat
  | .mk k _ _ _ is, most => if (k ≠ 5 ∧ k ≠ 6) ∨ most = 1 then 1 else depthAll is (most - 1) + 1
def depthAll : List JV → Nat → Nat
  | [], _ => 0
  | x :: xs, most => max (depthJ x most) (depthAll xs most)
end
theorem formedAll_iff : ∀ {is : List JV} {left : Nat}, FormedAll is left ↔ ∀ x ∈ is, FormedP x left
  | [], _ => by simp [FormedAll]
  | x :: xs, left => by simp [FormedAll, formedAll_iff (is := xs)]
theorem formedRAll_iff : ∀ {is : List JV}, FormedRAll is ↔ ∀ x ∈ is, FormedR x
  | [] => by simp [FormedRAll]
  | x :: xs => by simp [FormedRAll, formedRAll_iff (is := xs)]
theorem depthAll_le : ∀ {is : List JV} {most d : Nat}, depthAll is most ≤ d ↔ ∀ x ∈ is, depthJ x most ≤ d
  | [], _, _ => by simp [depthAll]
  | x :: xs, most, d => by simp [depthAll, Nat.max_le, depthAll_le (is := xs)]
theorem depthJ_pos (j : JV) (most : Nat) : 1 ≤ depthJ j most := by
  obtain ⟨k, n, s, ns, is⟩ := j
  rw [depthJ]; split <;> omega
mutual
/-- Both ways to say it. -/
theorem formed_both : ∀ (j : JV) (left : Nat), FormedP j left ↔ FormedR j ∧ depthJ j (left + 1) ≤ left
  | .mk k n s ns is, left => by
    have ih := formed_bothAll is (left - 1)
    rw [FormedP, FormedR, depthJ]
    by_cases h0 : left = 0
    · subst h0
      constructor
      · rintro ⟨h, _⟩; exact absurd rfl h
      · rintro ⟨_, h⟩; split at h <;> omega
    · by_cases hk : k ≠ 5 ∧ k ≠ 6
      · rw [if_pos (.inl hk)]
        constructor
        · rintro ⟨_, h1, h2, h3⟩
          exact ⟨⟨h1, h2, (ih.1 h3).1⟩, by omega⟩
        · rintro ⟨⟨h1, h2, h3⟩, h4⟩
          refine ⟨h0, h1, h2, ?_⟩
          have hl : is.length = 0 := (h1.2.2.2.2.2.1 (by have := h1.1; have := h1.2.1; omega)).1
          rw [List.eq_nil_of_length_eq_zero hl]
          trivial
      · rw [if_neg (by omega)]
        have hl : left + 1 - 1 = left - 1 + 1 := by omega
        rw [hl]
        constructor
        · rintro ⟨_, h1, h2, h3⟩
          have := ih.1 h3
          exact ⟨⟨h1, h2, this.1⟩, by have := this.2; omega⟩
        · rintro ⟨⟨h1, h2, h3⟩, h4⟩
          exact ⟨h0, h1, h2, ih.2 ⟨h3, by omega⟩⟩
theorem formed_bothAll : ∀ (is : List JV) (left : Nat), FormedAll is left ↔ FormedRAll is ∧ depthAll is (left + 1) ≤ left
  | [], left => by simp [FormedAll, FormedRAll, depthAll]
  | x :: xs, left => by
    have h1 := formed_both x left
    have h2 := formed_bothAll xs left
    rw [FormedAll, FormedRAll, depthAll, h1, h2, Nat.max_le]
    exact ⟨fun ⟨⟨a, b⟩, c, d⟩ => ⟨⟨a, c⟩, b, d⟩, fun ⟨⟨a, c⟩, b, d⟩ => ⟨⟨a, b⟩, c, d⟩⟩
end

set_option maxHeartbeats 1000000 in
theorem text_any (s : ByteArray) (w : World) (hs : s.size ≤ 9223372036854775807) (hT : Tabs w) : Calls Tryd.prog 40 #[.string s] w fun e w' => BoolIs (TextP s) e ∧ Below w.heap.size w w' := by
  by_cases h : s.size ≤ 60
  · have hI : (s.size : Int) ≤ 60 := by omega
    have HC := Lib.hid (valid_any s w hs hT)
    have HR : Hid (∀ b : Bool, Lib.validD s.data.toList = b → BoolIs (TextP s) (.returned (.bool b))) := Lib.hid fun b hb => ⟨b, rfl, by rw [TextP, hb]; simp [h]⟩
    obtain ⟨b, hb⟩ : ∃ b, Lib.validD s.data.toList = b := ⟨_, rfl⟩
    rw [hb] at HC
    have HRB := Lib.hid (HR.out b hb)
    clear hT HR hb
    go_enter Tryd.func40, Tryd.ntmps40
    go_wp2_with (first | (go_at_call 50; refine HC.out.mono ?_; rintro e w2 ⟨rfl, hb2⟩))
    go_ret
    exact ⟨HRB.out, hb2⟩
  · have hI : ¬ (s.size : Int) ≤ 60 := by omega
    have HN : Hid (¬ TextP s) := Lib.hid fun x => h x.1
    clear hT h
    go_enter Tryd.func40, Tryd.ntmps40
    go_wp2
    go_ret
    exact ⟨BoolIs.no HN.out, Below.refl _ _⟩
set_option maxHeartbeats 1000000 in
theorem rtext_any (s : ByteArray) (w : World) : Calls Tryd.prog 49 #[.string s] w fun e w' => BoolIs (TextP s) e ∧ Below w.heap.size w w' := by
  by_cases h : s.size ≤ 60
  · have hI : (s.size : Int) ≤ 60 := by omega
    have HC := Lib.hid (rvalid_any s w (by omega))
    have HR : Hid (∀ b : Bool, Lib.validD s.data.toList = b → BoolIs (TextP s) (.returned (.bool b))) := Lib.hid fun b hb => ⟨b, rfl, by rw [TextP, hb]; simp [h]⟩
    obtain ⟨b, hb⟩ : ∃ b, Lib.validD s.data.toList = b := ⟨_, rfl⟩
    rw [hb] at HC
    have HRB := Lib.hid (HR.out b hb)
    clear HR hb
    go_enter Tryd.func49, Tryd.ntmps49
    go_wp2_with (first | (go_at_call 54; refine HC.out.mono ?_; rintro e w2 ⟨rfl, hb2⟩))
    go_ret
    exact ⟨HRB.out, hb2⟩
  · have hI : ¬ (s.size : Int) ≤ 60 := by omega
    have HN : Hid (¬ TextP s) := Lib.hid fun x => h x.1
    clear h
    go_enter Tryd.func49, Tryd.ntmps49
    go_wp2
    go_ret
    exact ⟨BoolIs.no HN.out, Below.refl _ _⟩
end Go.Proofs.YtmobolefijneoaaDoor
