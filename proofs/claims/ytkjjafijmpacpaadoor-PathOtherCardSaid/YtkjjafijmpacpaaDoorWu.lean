/-
  Plain: PathBack's and PathOther's laws.
-/
import Derived.Test.YtkjjafijmpacpaaDoorWt
set_option linter.unusedVariables false
namespace Go.Proofs.YtkjjafijmpacpaaDoor
open Go.RowKit

theorem itemP_at {k n : Int} {s : ByteArray} {ns : List ByteArray} {is : List JV} {K : Nat} : itemP (.mk k n s ns is) (K : Int) = is[K]? := by
  rw [itemP, if_pos (by omega), Int.toNat_natCast]
theorem itemP_neg {k n : Int} {s : ByteArray} {ns : List ByteArray} {is : List JV} {K : Int} (h : ¬ 0 ≤ K) : itemP (.mk k n s ns is) K = none := by rw [itemP, if_neg h]
/-- What putAt makes is got at its step. -/
theorem putAt_got {k n : Int} {s : ByteArray} {ns : List ByteArray} {is : List JV} {left : Nat} (hf : FormedP (.mk k n s ns is) left) {st : ByteArray} {z j : JV} (h : putAt k ns is (placeP (.mk k n s ns is) st) st z = some j) : itemP j (placeP j st) = some z := by
  by_cases hK : 0 ≤ placeP (.mk k n s ns is) st
  · obtain ⟨K, hKK⟩ : ∃ K : Nat, placeP (.mk k n s ns is) st = K := ⟨(placeP (.mk k n s ns is) st).toNat, by omega⟩
    obtain ⟨h1, h2⟩ := place_kept hf hKK z
    rw [putAt, hKK, if_pos (by omega), Int.toNat_natCast] at h
    injection h with h
    subst h
    rw [h2, itemP_at]
    exact mid_at is z K (by omega) _
  · rw [putAt, if_neg hK] at h
    by_cases h6 : k = 6
    · rw [if_neg (by omega)] at h
      injection h with h
      subst h
      have hsz := formed_sizes hf
      have hn : findGo st ns 0 = -1 := by
        rw [placeP, if_neg (by omega), if_pos h6] at hK
        rcases findGo_ge st ns 0 with h | ⟨h, _⟩
        · exact h
        · omega
      have hle := lessN_le st ns
      have hp : placeP (.mk k 0 ⟨#[]⟩ (ns.take (lessN st ns) ++ [st] ++ ns.drop (lessN st ns)) (is.take (lessN st ns) ++ [z] ++ is.drop (lessN st ns))) st = ((lessN st ns : Nat) : Int) := by
        rw [placeP, if_neg (by omega), if_pos h6, List.append_assoc, List.singleton_append, findGo_new st _ _ 0 (fun e => findGo_none hn (List.mem_of_mem_take e)), List.length_take, Nat.min_eq_left hle]
        simp
      rw [hp, itemP_at]
      exact mid_at is z _ (by have := hsz.2.2 h6; omega) _
    · rw [if_pos h6] at h; cases h
theorem formed_at {k n : Int} {s : ByteArray} {ns : List ByteArray} {is : List JV} {left : Nat} (hf : FormedP (.mk k n s ns is) left) {K : Nat} {y : JV} (h : is[K]? = some y) : FormedP y (left - 1) :=
  formed_item hf (List.mem_of_getElem? h)
/-- What is put is got. -/
theorem get_put : ∀ (l : List ByteArray) (v x j : JV) (left : Nat), FormedP v left → putP l v x = some j → getP l j = some x
  | [], _, _, _, _, _, h => by rw [putP] at h; cases h
  | st :: rest, .mk k n s ns is, x, j, left, hf, h => by
    rw [putP] at h
    split at h
    · rename_i hr
      subst hr
      rw [getP, putAt_got hf h]
      rfl
    · rename_i hr
      split at h
      · cases h
      · rename_i y hy
        split at h
        · cases h
        · rename_i z hz
          rw [getP, putAt_got hf h]
          have hfy : FormedP y (left - 1) := by
            by_cases hK : 0 ≤ placeP (.mk k n s ns is) st
            · obtain ⟨K, hKK⟩ : ∃ K : Nat, placeP (.mk k n s ns is) st = K := ⟨(placeP (.mk k n s ns is) st).toNat, by omega⟩
              rw [hKK, itemP_at] at hy
              exact formed_at hf hy
            · rw [itemP_neg hK] at hy; cases hy
          exact get_put rest y x z _ hfy hz
theorem empty_text {s : ByteArray} (h : s.toList = []) : s = ⟨#[]⟩ := by
  rw [ByteArray.toList_eq] at h
  cases s with
  | mk d => simp only [ByteArray.mk.injEq]; exact Array.ext' h
/-- What was there, put again over what was put, makes the value that was. -/
theorem put_back : ∀ (l : List ByteArray) (v x j was : JV) (left : Nat), FormedP v left → putP l v x = some j → getP l v = some was → putP l j was = some v
  | [], _, _, _, _, _, _, h, _ => by rw [putP] at h; cases h
  | st :: rest, .mk k n s ns is, x, j, was, left, hf, h, hg => by
    rw [getP] at hg
    have hK : 0 ≤ placeP (.mk k n s ns is) st := by
      by_cases hK : 0 ≤ placeP (.mk k n s ns is) st
      · exact hK
      · rw [itemP_neg hK] at hg; cases hg
    obtain ⟨K, hKK⟩ : ∃ K : Nat, placeP (.mk k n s ns is) st = K := ⟨(placeP (.mk k n s ns is) st).toNat, by omega⟩
    have hk5 : 5 ≤ k := by
      rw [placeP] at hKK
      split at hKK
      · omega
      · split at hKK
        · omega
        · omega
    have hhd := hf
    rw [FormedP] at hhd
    have hn0 : n = 0 := hhd.2.1.2.2.1 (by omega)
    have hs0 : s = ⟨#[]⟩ := empty_text (hhd.2.1.2.2.2.1 (by omega))
    have hlt := (place_kept hf hKK x).1
    have hy : is[K]? = some is[K] := List.getElem?_eq_getElem hlt
    have fin : ∀ z : JV, putAt k ns (is.take K ++ [z] ++ is.drop (K + 1)) (K : Int) st is[K] = some (.mk k n s ns is) := fun z => by
      rw [putAt, if_pos (by omega), Int.toNat_natCast, set_mid _ _ _ hlt]
      have : K < (is.set K z).length := by rw [List.length_set]; exact hlt
      rw [set_mid _ _ _ this, List.set_set, List.set_getElem_self, hn0, hs0]
    rw [hKK, itemP_at, hy] at hg
    rw [putP] at h
    split at h
    · rename_i hr
      subst hr
      have hw : was = is[K] := by
        have hg' : getP [] is[K] = some was := hg
        rw [getP] at hg'
        injection hg' with hg'
        exact hg'.symm
      rw [hKK, putAt, if_pos (by omega), Int.toNat_natCast] at h
      injection h with h
      subst h
      rw [putP, if_pos rfl, (place_kept hf hKK x).2, hw]
      exact fin x
    · rename_i hr
      rw [hKK, itemP_at, hy] at h
      have h' : (match putP rest is[K] x with | none => none | some z => putAt k ns is (K : Int) st z) = some j := h
      cases hz : putP rest is[K] x with
      | none => rw [hz] at h'; cases h'
      | some z =>
        rw [hz] at h'
        have h2 : putAt k ns is (K : Int) st z = some j := h'
        rw [putAt, if_pos (by omega), Int.toNat_natCast] at h2
        injection h2 with h2
        subst h2
        have hb := put_back rest is[K] x z was _ (formed_at hf hy) hz hg
        rw [putP, if_neg hr, (place_kept hf hKK z).2, itemP_at, mid_at is z K (by omega)]
        show (match putP rest z was with | none => none | some z' => putAt k ns (is.take K ++ [z] ++ is.drop (K + 1)) (K : Int) st z') = _
        rw [hb]
        exact fin z
theorem findGo_inj {a b : ByteArray} : ∀ {l : List ByteArray} {q K : Nat}, findGo a l q = (K : Int) → findGo b l q = (K : Int) → a = b
  | [], q, K, h, _ => by rw [findGo] at h; omega
  | x :: xs, q, K, h, h2 => by
    rw [findGo] at h h2
    split at h
    · rename_i h3
      split at h2
      · rename_i h4; rw [← h3, ← h4]
      · rcases findGo_ge b xs (q + 1) with h5 | ⟨h5, _⟩ <;> omega
    · split at h2
      · rcases findGo_ge a xs (q + 1) with h5 | ⟨h5, _⟩ <;> omega
      · exact findGo_inj h h2
theorem putAt_other {n : Int} {s : ByteArray} {ns : List ByteArray} {is : List JV} {left : Nat} (hf : FormedP (.mk 6 n s ns is) left) {st t : ByteArray} (hne : t ≠ st) {z j : JV} (h : putAt 6 ns is (placeP (.mk 6 n s ns is) st) st z = some j) : itemP j (placeP j t) = itemP (.mk 6 n s ns is) (placeP (.mk 6 n s ns is) t) := by
  have hpl : ∀ (n : Int) (s : ByteArray) (ns : List ByteArray) (is : List JV) (u : ByteArray), placeP (.mk 6 n s ns is) u = findGo u ns 0 := fun n s ns is u => by rw [placeP, if_neg (by omega), if_pos rfl]
  by_cases hK : 0 ≤ placeP (.mk 6 n s ns is) st
  · obtain ⟨K, hKK⟩ : ∃ K : Nat, placeP (.mk 6 n s ns is) st = K := ⟨(placeP (.mk 6 n s ns is) st).toNat, by omega⟩
    have h1 := (place_kept hf hKK z).1
    rw [putAt, hKK, if_pos (by omega), Int.toNat_natCast] at h
    injection h with h
    subst h
    rw [hpl, hpl, set_mid _ _ _ h1]
    rcases findGo_ge t ns 0 with h2 | ⟨h2, _⟩
    · rw [h2, itemP_neg (by omega), itemP_neg (by omega)]
    · obtain ⟨M, hM⟩ : ∃ M : Nat, findGo t ns 0 = M := ⟨(findGo t ns 0).toNat, by omega⟩
      rw [hM, itemP_at, itemP_at, List.getElem?_set_ne]
      intro e
      subst e
      rw [hpl] at hKK
      exact hne (findGo_inj hM hKK)
  · rw [putAt, if_neg hK, if_neg (by omega)] at h
    injection h with h
    subst h
    have hsz := (formed_sizes hf).2.2 rfl
    have hle := lessN_le st ns
    rw [hpl, hpl, findGo_other st t hne ns _ 0 hle]
    rcases findGo_ge t ns 0 with h2 | ⟨h2, h3⟩
    · rw [if_pos h2, h2, itemP_neg (by omega), itemP_neg (by omega)]
    · obtain ⟨M, hM⟩ : ∃ M : Nat, findGo t ns 0 = M := ⟨(findGo t ns 0).toNat, by omega⟩
      rw [hM, if_neg (by omega)]
      generalize lessN st ns = m at *
      by_cases hlt : M < m
      · rw [if_pos (by omega), itemP_at, itemP_at, List.append_assoc, List.getElem?_append_left (by rw [List.length_take]; omega), List.getElem?_take, if_pos hlt]
      · rw [if_neg (by omega), show ((M : Int) + 1) = ((M + 1 : Nat) : Int) by omega, itemP_at, itemP_at, List.getElem?_append_right (by simp; omega)]
        simp only [List.length_append, List.length_take, List.length_cons, List.length_nil, List.getElem?_drop]
        congr 1
        omega
/-- At the first step of another path all stays. -/
theorem get_other (st t : ByteArray) (hne : t ≠ st) (lr mr : List ByteArray) (v x j : JV) (left : Nat) (hf : FormedP v left) (hk : kindJ v = 6) (h : putP (st :: lr) v x = some j) : getP (t :: mr) j = getP (t :: mr) v := by
  obtain ⟨k, n, s, ns, is⟩ := v
  have hk : k = 6 := hk
  subst hk
  rw [putP] at h
  rw [getP, getP]
  split at h
  · rw [putAt_other hf hne h]
  · split at h
    · cases h
    · split at h
      · cases h
      · rw [putAt_other hf hne h]
end Go.Proofs.YtkjjafijmpacpaaDoor
