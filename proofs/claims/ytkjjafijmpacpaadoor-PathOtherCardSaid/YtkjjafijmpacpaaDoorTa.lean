/-
  Rows of strings that the call owns; the contracts of path.Steps and munimentref02.Steps.
-/
import Derived.Test.YtkjjafijmpacpaaDoorUb
set_option linter.unusedVariables false
namespace Go.Proofs.YtkjjafijmpacpaaDoor
open Go.RowKit Go.Lib

theorem info_str : (Tryd.prog.info? 9).map (fun i => (i.zero, i.size, i.bytes)) = some (some (.string ByteArray.empty), 1, 16) := by kernel_rfl
theorem get_byte (s : ByteArray) (k : Nat) (h : k < s.size) : s.data.toList.getD k 0 = s[k]'h := by
  rw [List.getD_eq_getElem?_getD, List.getElem?_eq_getElem (by rw [← size_eq]; exact h)]
  rfl
/-- A path's steps, from the byte k on. -/
def stepsP (s : ByteArray) : Nat → Nat → Nat → List ByteArray → Option (List ByteArray)
  | 0, _, _, out => some out
  | n + 1, k, from_, out =>
    if k < s.size ∧ s.data.toList.getD k 0 ≠ 46 then stepsP s n (k + 1) from_ out
    else if k = from_ ∨ 60 < k - from_ ∨ out.length = 4 ∨ validD (s.extract from_ k).data.toList = false then none
    else stepsP s n (k + 1) (k + 1) (out ++ [s.extract from_ k])
theorem row_below {w w' : World} {base : Nat} {e : TypeId} {size n : Nat} {v : Value} {xs : List Value} (h : w.ownsRow base e size v n xs) (hb : Below w.heap.size w w') : w'.ownsRow base e size v n xs :=
  World.ownsRow.kept (row := none) h ⟨hb.os, hb.tape, hb.output, hb.size, fun k hk _ => hb.block k hk⟩ (by cases v.ownBlock <;> simp)
theorem row_snoc {w : World} {base : Nat} {v : Value} {out : List ByteArray} {x : ByteArray} (h : w.ownsRow base 9 1 v (out.length + 1) (out.map Value.string ++ [.string x])) : w.ownsRow base 9 1 v (out ++ [x]).length ((out ++ [x]).map Value.string) := by
  rw [List.length_append, List.map_append]; exact h
theorem app_below {w w' : World} {base : Nat} {e : TypeId} {size n : Nat} {v v' : Value} {xs : List Value} {o : Obj} (h : w.ownsRow base e size v n xs) (hb : base ≤ w.heap.size) (hg : Grew (w.alloc o) v w' v') : Below base w w' :=
  ((Below.refl _ _).alloc hb o).grown hg.by_ (by simp; omega) fun g hgk => (h.lt g hgk).1
/-- What Steps answers. -/
def StepsRes (X : Option (List ByteArray)) (w : World) (e : Ending) (w' : World) : Prop :=
  (match X with
    | none => e = .returned (.tuple #[.slice none 0 0, .int .i64 2])
    | some out => ∃ v, e = .returned (.tuple #[v, .int .i64 0]) ∧ w'.ownsRow w.heap.size 9 1 v out.length (out.map Value.string)) ∧ Below w.heap.size w w'

set_option maxHeartbeats 4000000 in
theorem steps_any (s : ByteArray) (w : World) (hs : s.size ≤ 2000) (HV : ∀ w', Below w.heap.size w w' → ∀ t : ByteArray, t.size ≤ 2000 → Calls Tryd.prog 18 #[.string t] w' fun e w'' => e = .returned (.bool (validD t.data.toList)) ∧ Below w'.heap.size w' w'') :
    Calls Tryd.prog 9 #[.string s] w (StepsRes (stepsP s (s.size + 1) 0 0 []) w) := by
  have HVH := Lib.hid HV
  clear HV
  obtain ⟨X, hX⟩ : ∃ X, stepsP s (s.size + 1) 0 0 [] = X := ⟨_, rfl⟩
  rw [hX]
  have HX := Lib.hid hX
  clear hX
  go_enter Tryd.func9, Tryd.ntmps9
  go_wp2
  go_loopw [4, 5, 6] (fun v f i wr => ∃ (k from_ : Nat) (out : List ByteArray), i = .int .i64 k ∧ f = .int .i64 from_ ∧ k ≤ s.size + 1 ∧ from_ ≤ k ∧ Hid (stepsP s (s.size + 1 - k) k from_ out = X) ∧ Hid (out.length ≤ 4) ∧ wr.ownsRow w.heap.size 9 1 v out.length (out.map Value.string) ∧ Below w.heap.size w wr)
    (fun _ _ i _ => s.size + 1 - (intOf i).toNat)
  case atStart => exact ⟨0, 0, [], rfl, rfl, Nat.zero_le _, Nat.le_refl _, HX, Lib.hid (Nat.zero_le _), World.ownsRow_nil _ _ _ _, Below.refl _ _⟩
  case round =>
    obtain ⟨k, from_, out, rfl, rfl, hk, hf, hP, hO4, hown, hB⟩ := hrel
    have hol := hO4.out
    obtain ⟨A, cp, rfl, hcp, hcm, _⟩ := ownsRow_shape hown
    unfold maxLen at hcm
    by_cases hlt : k ≤ s.size
    · have hkI : (k : Int) ≤ (s.size : Int) := by omega
      have HN : Hid (stepsP s (s.size + 1 - (k + 1) + 1) k from_ out = X) := Lib.hid (by rw [show s.size + 1 - (k + 1) + 1 = s.size + 1 - k by omega]; exact hP.out)
      by_cases hc : k < s.size ∧ s.data.toList.getD k 0 ≠ 46
      · have hk2 : (k : Int) < (s.size : Int) := by omega
        have hks : k < s.size := hc.1
        have hcI : (((s[k]'hks).toNat : Int) != 46) = true := by
          have h := hc.2
          rw [get_byte s k hks] at h
          have : (s[k]'hks).toNat ≠ 46 := fun e => h (UInt8.toNat_inj.1 (by rw [e]; rfl))
          simp; omega
        have HN2 : Hid (stepsP s (s.size + 1 - (k + 1)) (k + 1) from_ out = X) := Lib.hid (by rw [← HN.out, stepsP, if_pos hc])
        clear HN hP hc
        go_wp2
        go_roundw
        case rel => exact ⟨k + 1, from_, out, by go_num, rfl, by omega, by omega, HN2, hO4, hown, hB⟩
        case measure => simp [intOf]; omega
      · have HN2 : Hid (X = if k = from_ ∨ 60 < k - from_ ∨ out.length = 4 ∨ validD (s.extract from_ k).data.toList = false then none else stepsP s (s.size + 1 - (k + 1)) (k + 1) (k + 1) (out ++ [s.extract from_ k])) := Lib.hid (by rw [← HN.out, stepsP, if_neg hc])
        have HVC := Lib.hid (HVH.out wr hB (s.extract from_ k) (by rw [ByteArray.size_extract]; omega))
        have hf2 : (from_ : Int) ≤ (k : Int) := by omega
        have hg0 : (0 : Int) ≤ (from_ : Int) := by omega
        have hk0 : (0 : Int) ≤ (k : Int) := by omega
        have hcI : Hid (∀ h : k < s.size, (((s[k]'h).toNat : Int) != 46) = false) := Lib.hid fun h => by
          have h2 : s.data.toList.getD k 0 = 46 := by
            by_cases e : s.data.toList.getD k 0 = 46
            · exact e
            · exact absurd ⟨h, e⟩ hc
          rw [get_byte s k h] at h2
          rw [h2]; rfl
        clear HN hP hc
        by_cases g1 : k = from_
        · have HE : Hid (X = none) := Lib.hid (by rw [HN2.out, if_pos (.inl g1)])
          have g1I : ((k : Int) == (from_ : Int)) = true := by simp; omega
          clear HN2 HVC
          have HG := Lib.hid g1
          clear g1
          by_cases hks : k < s.size
          · have hk2 : (k : Int) < (s.size : Int) := by omega
            have hcc := hcI.out hks
            go_wp2
            go_ret2
            exact ⟨by rw [HE.out]; rfl, hB⟩
          · have hk2 : ¬ (k : Int) < (s.size : Int) := by omega
            go_wp2
            go_ret2
            exact ⟨by rw [HE.out]; rfl, hB⟩
        · have g1I : ((k : Int) == (from_ : Int)) = false := by simp; omega
          by_cases g2 : 60 < k - from_
          · have HE : Hid (X = none) := Lib.hid (by rw [HN2.out, if_pos (.inr (.inl g2))])
            have g2I : (60 : Int) < (k : Int) - (from_ : Int) := by omega
            clear HN2 HVC
            by_cases hks : k < s.size
            · have hk2 : (k : Int) < (s.size : Int) := by omega
              have hcc := hcI.out hks
              go_wp2
              go_ret2
              exact ⟨by rw [HE.out]; rfl, hB⟩
            · have hk2 : ¬ (k : Int) < (s.size : Int) := by omega
              go_wp2
              go_ret2
              exact ⟨by rw [HE.out]; rfl, hB⟩
          · have g2I : ¬ (60 : Int) < (k : Int) - (from_ : Int) := by omega
            by_cases g3 : out.length = 4
            · have HE : Hid (X = none) := Lib.hid (by rw [HN2.out, if_pos (.inr (.inr (.inl g3)))])
              have g3I : ((out.length : Int) == 4) = true := by simp; omega
              clear HN2 HVC
              have HG := Lib.hid g3
              clear g3
              by_cases hks : k < s.size
              · have hk2 : (k : Int) < (s.size : Int) := by omega
                have hcc := hcI.out hks
                go_wp2
                go_ret2
                exact ⟨by rw [HE.out]; rfl, hB⟩
              · have hk2 : ¬ (k : Int) < (s.size : Int) := by omega
                go_wp2
                go_ret2
                exact ⟨by rw [HE.out]; rfl, hB⟩
            · have g3I : ((out.length : Int) == 4) = false := by simp; omega
              obtain ⟨vb, hvb⟩ : ∃ vb, validD (s.extract from_ k).data.toList = vb := ⟨_, rfl⟩
              rw [hvb] at HVC
              cases vb with
              | false =>
                have HE : Hid (X = none) := Lib.hid (by rw [HN2.out, if_pos (.inr (.inr (.inr hvb)))])
                clear HN2 hvb
                by_cases hks : k < s.size
                · have hk2 : (k : Int) < (s.size : Int) := by omega
                  have hcc := hcI.out hks
                  go_wp2_with (first | (go_at_call 18; refine HVC.out.mono ?_; rintro e w2 ⟨rfl, hb2⟩))
                  go_ret2
                  exact ⟨by rw [HE.out]; rfl, hB.trans (hb2.mono hB.size)⟩
                · have hk2 : ¬ (k : Int) < (s.size : Int) := by omega
                  go_wp2_with (first | (go_at_call 18; refine HVC.out.mono ?_; rintro e w2 ⟨rfl, hb2⟩))
                  go_ret2
                  exact ⟨by rw [HE.out]; rfl, hB.trans (hb2.mono hB.size)⟩
              | true =>
                have HE : Hid (stepsP s (s.size + 1 - (k + 1)) (k + 1) (k + 1) (out ++ [s.extract from_ k]) = X) := Lib.hid (by
                  rw [HN2.out, if_neg]
                  rintro (h | h | h | h)
                  · exact g1 h
                  · exact g2 h
                  · exact g3 h
                  · rw [hvb] at h; cases h)
                have HL4 : Hid ((out ++ [s.extract from_ k]).length ≤ 4) := Lib.hid (by simp; omega)
                clear HN2 hvb
                have hol3 : out.length ≤ 3 := by omega
                by_cases hks : k < s.size
                · have hk2 : (k : Int) < (s.size : Int) := by omega
                  have hcc := hcI.out hks
                  go_wp2_with (first | (go_at_call 18; refine HVC.out.mono ?_; rintro e w2 ⟨rfl, hb2⟩; have hrow2 := row_below hown hb2; have hB2 := hB.trans (hb2.mono hB.size); have hs2 := hB2.size) | (at_builtin; refine appG_anyS Tryd.underlying23 info_str rfl (by decide) rfl (.tmp 45) (.tmp 50) rfl w.heap.size _ out.length _ rfl (World.ownsRow.alloc hrow2 _) _ _ 1 1 [.string (s.extract from_ k)] rfl (cells_blk w2 _ _) (by simp) (by intro u hu; simp at hu; subst hu; rfl) (by unfold maxLen; omega) (by omega) (by simp; omega) ?_; intro A3 c3 w3 hr3 hg3))
                  go_roundw
                  case rel => exact ⟨k + 1, k + 1, _, by go_num, by go_num, by omega, Nat.le_refl _, HE, HL4, row_snoc hr3, hB2.trans (app_below hrow2 hs2 hg3)⟩
                  case measure => simp [intOf]; omega
                · have hk2 : ¬ (k : Int) < (s.size : Int) := by omega
                  go_wp2_with (first | (go_at_call 18; refine HVC.out.mono ?_; rintro e w2 ⟨rfl, hb2⟩; have hrow2 := row_below hown hb2; have hB2 := hB.trans (hb2.mono hB.size); have hs2 := hB2.size) | (at_builtin; refine appG_anyS Tryd.underlying23 info_str rfl (by decide) rfl (.tmp 45) (.tmp 50) rfl w.heap.size _ out.length _ rfl (World.ownsRow.alloc hrow2 _) _ _ 1 1 [.string (s.extract from_ k)] rfl (cells_blk w2 _ _) (by simp) (by intro u hu; simp at hu; subst hu; rfl) (by unfold maxLen; omega) (by omega) (by simp; omega) ?_; intro A3 c3 w3 hr3 hg3))
                  go_roundw
                  case rel => exact ⟨k + 1, k + 1, _, by go_num, by go_num, by omega, Nat.le_refl _, HE, HL4, row_snoc hr3, hB2.trans (app_below hrow2 hs2 hg3)⟩
                  case measure => simp [intOf]; omega
    · have hkI : ¬ (k : Int) ≤ (s.size : Int) := by omega
      have HE : Hid (X = some out) := Lib.hid (by rw [← hP.out, show s.size + 1 - k = 0 by omega, stepsP])
      clear hP
      go_wp2
      go_ret2
      exact ⟨by rw [HE.out]; exact ⟨_, rfl, hown⟩, hB⟩

set_option maxHeartbeats 4000000 in
theorem rsteps_any (s : ByteArray) (w : World) (hs : s.size ≤ 2000) (HV : ∀ w', Below w.heap.size w w' → ∀ t : ByteArray, t.size ≤ 2000 → Calls Tryd.prog 19 #[.string t] w' fun e w'' => e = .returned (.bool (validD t.data.toList)) ∧ Below w'.heap.size w' w'') :
    Calls Tryd.prog 10 #[.string s] w (StepsRes (stepsP s (s.size + 1) 0 0 []) w) := by
  have HVH := Lib.hid HV
  clear HV
  obtain ⟨X, hX⟩ : ∃ X, stepsP s (s.size + 1) 0 0 [] = X := ⟨_, rfl⟩
  rw [hX]
  have HX := Lib.hid hX
  clear hX
  go_enter Tryd.func10, Tryd.ntmps10
  go_wp2
  go_loopw [4, 5, 6] (fun v f i wr => ∃ (k from_ : Nat) (out : List ByteArray), i = .int .i64 k ∧ f = .int .i64 from_ ∧ k ≤ s.size + 1 ∧ from_ ≤ k ∧ Hid (stepsP s (s.size + 1 - k) k from_ out = X) ∧ Hid (out.length ≤ 4) ∧ wr.ownsRow w.heap.size 9 1 v out.length (out.map Value.string) ∧ Below w.heap.size w wr)
    (fun _ _ i _ => s.size + 1 - (intOf i).toNat)
  case atStart => exact ⟨0, 0, [], rfl, rfl, Nat.zero_le _, Nat.le_refl _, HX, Lib.hid (Nat.zero_le _), World.ownsRow_nil _ _ _ _, Below.refl _ _⟩
  case round =>
    obtain ⟨k, from_, out, rfl, rfl, hk, hf, hP, hO4, hown, hB⟩ := hrel
    have hol := hO4.out
    obtain ⟨A, cp, rfl, hcp, hcm, _⟩ := ownsRow_shape hown
    unfold maxLen at hcm
    by_cases hlt : k ≤ s.size
    · have hkI : (k : Int) ≤ (s.size : Int) := by omega
      have HN : Hid (stepsP s (s.size + 1 - (k + 1) + 1) k from_ out = X) := Lib.hid (by rw [show s.size + 1 - (k + 1) + 1 = s.size + 1 - k by omega]; exact hP.out)
      by_cases hc : k < s.size ∧ s.data.toList.getD k 0 ≠ 46
      · have hk2 : (k : Int) < (s.size : Int) := by omega
        have hks : k < s.size := hc.1
        have hcI : (((s[k]'hks).toNat : Int) != 46) = true := by
          have h := hc.2
          rw [get_byte s k hks] at h
          have : (s[k]'hks).toNat ≠ 46 := fun e => h (UInt8.toNat_inj.1 (by rw [e]; rfl))
          simp; omega
        have HN2 : Hid (stepsP s (s.size + 1 - (k + 1)) (k + 1) from_ out = X) := Lib.hid (by rw [← HN.out, stepsP, if_pos hc])
        clear HN hP hc
        go_wp2
        go_roundw
        case rel => exact ⟨k + 1, from_, out, by go_num, rfl, by omega, by omega, HN2, hO4, hown, hB⟩
        case measure => simp [intOf]; omega
      · have HN2 : Hid (X = if k = from_ ∨ 60 < k - from_ ∨ out.length = 4 ∨ validD (s.extract from_ k).data.toList = false then none else stepsP s (s.size + 1 - (k + 1)) (k + 1) (k + 1) (out ++ [s.extract from_ k])) := Lib.hid (by rw [← HN.out, stepsP, if_neg hc])
        have HVC := Lib.hid (HVH.out wr hB (s.extract from_ k) (by rw [ByteArray.size_extract]; omega))
        have hf2 : (from_ : Int) ≤ (k : Int) := by omega
        have hg0 : (0 : Int) ≤ (from_ : Int) := by omega
        have hk0 : (0 : Int) ≤ (k : Int) := by omega
        have hcI : Hid (∀ h : k < s.size, (((s[k]'h).toNat : Int) != 46) = false) := Lib.hid fun h => by
          have h2 : s.data.toList.getD k 0 = 46 := by
            by_cases e : s.data.toList.getD k 0 = 46
            · exact e
            · exact absurd ⟨h, e⟩ hc
          rw [get_byte s k h] at h2
          rw [h2]; rfl
        clear HN hP hc
        by_cases g1 : k = from_
        · have HE : Hid (X = none) := Lib.hid (by rw [HN2.out, if_pos (.inl g1)])
          have g1I : ((k : Int) == (from_ : Int)) = true := by simp; omega
          clear HN2 HVC
          have HG := Lib.hid g1
          clear g1
          by_cases hks : k < s.size
          · have hk2 : (k : Int) < (s.size : Int) := by omega
            have hcc := hcI.out hks
            go_wp2
            go_ret2
            exact ⟨by rw [HE.out]; rfl, hB⟩
          · have hk2 : ¬ (k : Int) < (s.size : Int) := by omega
            go_wp2
            go_ret2
            exact ⟨by rw [HE.out]; rfl, hB⟩
        · have g1I : ((k : Int) == (from_ : Int)) = false := by simp; omega
          by_cases g2 : 60 < k - from_
          · have HE : Hid (X = none) := Lib.hid (by rw [HN2.out, if_pos (.inr (.inl g2))])
            have g2I : (60 : Int) < (k : Int) - (from_ : Int) := by omega
            clear HN2 HVC
            by_cases hks : k < s.size
            · have hk2 : (k : Int) < (s.size : Int) := by omega
              have hcc := hcI.out hks
              go_wp2
              go_ret2
              exact ⟨by rw [HE.out]; rfl, hB⟩
            · have hk2 : ¬ (k : Int) < (s.size : Int) := by omega
              go_wp2
              go_ret2
              exact ⟨by rw [HE.out]; rfl, hB⟩
          · have g2I : ¬ (60 : Int) < (k : Int) - (from_ : Int) := by omega
            by_cases g3 : out.length = 4
            · have HE : Hid (X = none) := Lib.hid (by rw [HN2.out, if_pos (.inr (.inr (.inl g3)))])
              have g3I : ((out.length : Int) == 4) = true := by simp; omega
              clear HN2 HVC
              have HG := Lib.hid g3
              clear g3
              by_cases hks : k < s.size
              · have hk2 : (k : Int) < (s.size : Int) := by omega
                have hcc := hcI.out hks
                go_wp2
                go_ret2
                exact ⟨by rw [HE.out]; rfl, hB⟩
              · have hk2 : ¬ (k : Int) < (s.size : Int) := by omega
                go_wp2
                go_ret2
                exact ⟨by rw [HE.out]; rfl, hB⟩
            · have g3I : ((out.length : Int) == 4) = false := by simp; omega
              obtain ⟨vb, hvb⟩ : ∃ vb, validD (s.extract from_ k).data.toList = vb := ⟨_, rfl⟩
              rw [hvb] at HVC
              cases vb with
              | false =>
                have HE : Hid (X = none) := Lib.hid (by rw [HN2.out, if_pos (.inr (.inr (.inr hvb)))])
                clear HN2 hvb
                by_cases hks : k < s.size
                · have hk2 : (k : Int) < (s.size : Int) := by omega
                  have hcc := hcI.out hks
                  go_wp2_with (first | (go_at_call 19; refine HVC.out.mono ?_; rintro e w2 ⟨rfl, hb2⟩))
                  go_ret2
                  exact ⟨by rw [HE.out]; rfl, hB.trans (hb2.mono hB.size)⟩
                · have hk2 : ¬ (k : Int) < (s.size : Int) := by omega
                  go_wp2_with (first | (go_at_call 19; refine HVC.out.mono ?_; rintro e w2 ⟨rfl, hb2⟩))
                  go_ret2
                  exact ⟨by rw [HE.out]; rfl, hB.trans (hb2.mono hB.size)⟩
              | true =>
                have HE : Hid (stepsP s (s.size + 1 - (k + 1)) (k + 1) (k + 1) (out ++ [s.extract from_ k]) = X) := Lib.hid (by
                  rw [HN2.out, if_neg]
                  rintro (h | h | h | h)
                  · exact g1 h
                  · exact g2 h
                  · exact g3 h
                  · rw [hvb] at h; cases h)
                have HL4 : Hid ((out ++ [s.extract from_ k]).length ≤ 4) := Lib.hid (by simp; omega)
                clear HN2 hvb
                have hol3 : out.length ≤ 3 := by omega
                by_cases hks : k < s.size
                · have hk2 : (k : Int) < (s.size : Int) := by omega
                  have hcc := hcI.out hks
                  go_wp2_with (first | (go_at_call 19; refine HVC.out.mono ?_; rintro e w2 ⟨rfl, hb2⟩; have hrow2 := row_below hown hb2; have hB2 := hB.trans (hb2.mono hB.size); have hs2 := hB2.size) | (at_builtin; refine appG_anyS Tryd.underlying23 info_str rfl (by decide) rfl (.tmp 45) (.tmp 50) rfl w.heap.size _ out.length _ rfl (World.ownsRow.alloc hrow2 _) _ _ 1 1 [.string (s.extract from_ k)] rfl (cells_blk w2 _ _) (by simp) (by intro u hu; simp at hu; subst hu; rfl) (by unfold maxLen; omega) (by omega) (by simp; omega) ?_; intro A3 c3 w3 hr3 hg3))
                  go_roundw
                  case rel => exact ⟨k + 1, k + 1, _, by go_num, by go_num, by omega, Nat.le_refl _, HE, HL4, row_snoc hr3, hB2.trans (app_below hrow2 hs2 hg3)⟩
                  case measure => simp [intOf]; omega
                · have hk2 : ¬ (k : Int) < (s.size : Int) := by omega
                  go_wp2_with (first | (go_at_call 19; refine HVC.out.mono ?_; rintro e w2 ⟨rfl, hb2⟩; have hrow2 := row_below hown hb2; have hB2 := hB.trans (hb2.mono hB.size); have hs2 := hB2.size) | (at_builtin; refine appG_anyS Tryd.underlying23 info_str rfl (by decide) rfl (.tmp 45) (.tmp 50) rfl w.heap.size _ out.length _ rfl (World.ownsRow.alloc hrow2 _) _ _ 1 1 [.string (s.extract from_ k)] rfl (cells_blk w2 _ _) (by simp) (by intro u hu; simp at hu; subst hu; rfl) (by unfold maxLen; omega) (by omega) (by simp; omega) ?_; intro A3 c3 w3 hr3 hg3))
                  go_roundw
                  case rel => exact ⟨k + 1, k + 1, _, by go_num, by go_num, by omega, Nat.le_refl _, HE, HL4, row_snoc hr3, hB2.trans (app_below hrow2 hs2 hg3)⟩
                  case measure => simp [intOf]; omega
    · have hkI : ¬ (k : Int) ≤ (s.size : Int) := by omega
      have HE : Hid (X = some out) := Lib.hid (by rw [← hP.out, show s.size + 1 - k = 0 by omega, stepsP])
      clear hP
      go_wp2
      go_ret2
      exact ⟨by rw [HE.out]; exact ⟨_, rfl, hown⟩, hB⟩
end Go.Proofs.YtkjjafijmpacpaaDoor
