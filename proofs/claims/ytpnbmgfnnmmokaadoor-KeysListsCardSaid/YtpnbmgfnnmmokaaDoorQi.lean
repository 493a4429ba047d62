/-
  Plain: compound keys: ordered value by value, those that fall the other way round; split as they were.
-/
import Derived.Test.YtpnbmgfnnmmokaaDoorQr
import Derived.Test.YtpnbmgfnnmmokaaDoorOd
set_option linter.unusedVariables false
namespace Go.Proofs.YtpnbmgfnnmmokaaDoor
open Go.RowKit

/-- Every byte turned. -/
def turnB (l : List Int) : List Int := l.map fun x => 255 - x
theorem turnB_len (l : List Int) : (turnB l).length = l.length := by unfold turnB; simp
theorem turnB_app (a b : List Int) : turnB (a ++ b) = turnB a ++ turnB b := by unfold turnB; simp
theorem turnB_two (l : List Int) : turnB (turnB l) = l := by
  unfold turnB
  rw [List.map_map]
  exact (List.map_congr_left (g := id) (fun x _ => by show 255 - (255 - x) = x; omega)).trans (List.map_id _)
theorem turnB_oct {l : List Int} (h : Oct l) : Oct (turnB l) := by
  intro x hx
  unfold turnB at hx
  obtain ⟨y, hy, rfl⟩ := List.mem_map.1 hx
  have := h y hy
  omega
theorem Apart.turnB {x y : List Int} {c : Int} (h : Apart x y c) : Apart (turnB x) (turnB y) (-c) := by
  obtain ⟨p, a, b, r, s, rfl, rfl, h⟩ := h
  exact ⟨Go.Proofs.YtpnbmgfnnmmokaaDoor.turnB p, 255 - a, 255 - b, Go.Proofs.YtpnbmgfnnmmokaaDoor.turnB r, Go.Proofs.YtpnbmgfnnmmokaaDoor.turnB s, by rw [turnB_app]; rfl, by rw [turnB_app]; rfl, by omega⟩
/-- A value's part of a compound key. -/
def partK (dn : Bool) (v : JV) : List Int := if dn = true then turnB (keyJ v) else keyJ v
/-- A compound key, from the i-th value on. -/
def compR (down : List Bool) : Nat → List JV → List Int
  | _, [] => []
  | i, v :: vs => partK (down.getD i false) v ++ compR down (i + 1) vs
/-- How two lists are to each other, from the i-th value on. -/
def cmpR (down : List Bool) : Nat → List JV → List JV → Int
  | i, x :: xs, y :: ys => if cmpJ x y ≠ 0 then (if down.getD i false = true then -cmpJ x y else cmpJ x y) else cmpR down (i + 1) xs ys
  | _, _, _ => 0
theorem comp_order (down : List Bool) : ∀ (i : Nat) (xs ys : List JV), xs.length = ys.length → (∀ x ∈ xs, FormedP x 6 ∧ NumsOK x) → (∀ y ∈ ys, FormedP y 6 ∧ NumsOK y) →
    (cmpR down i xs ys = 0 → compR down i xs = compR down i ys) ∧ (cmpR down i xs ys ≠ 0 → Apart (compR down i xs) (compR down i ys) (cmpR down i xs ys))
  | i, [], [], _, _, _ => ⟨fun _ => rfl, fun h => absurd rfl h⟩
  | i, [], _ :: _, h, _, _ => by simp at h
  | i, _ :: _, [], h, _, _ => by simp at h
  | i, x :: xs, y :: ys, h, hx, hy => by
    have hx0 := hx x (by simp)
    have hy0 := hy y (by simp)
    have ih := comp_order down (i + 1) xs ys (by simpa using h) (fun z hz => hx z (by simp [hz])) (fun z hz => hy z (by simp [hz]))
    rw [cmpR, compR, compR]
    by_cases hc : cmpJ x y = 0
    · have e := cmpJ_same x y _ _ hx0.1 hy0.1 hc
      subst e
      rw [if_neg (by simpa using hc)]
      exact ⟨fun h0 => by rw [ih.1 h0], fun h0 => (ih.2 h0).front _⟩
    · rw [if_pos hc]
      have hA := keyJ_apart x y _ _ hx0.1 hy0.1 hx0.2 hy0.2 hc
      unfold partK
      cases hd : down.getD i false
      · rw [if_neg (by simp), if_neg (by simp), if_neg (by simp)]
        exact ⟨fun h0 => absurd h0 hc, fun _ => hA.back _ _⟩
      · rw [if_pos rfl, if_pos rfl, if_pos rfl]
        exact ⟨fun h0 => by omega, fun _ => hA.turnB.back _ _⟩
theorem comp_oct (down : List Bool) : ∀ (i : Nat) (xs : List JV), (∀ x ∈ xs, FormedP x 6) → Oct (compR down i xs)
  | i, [], _ => Oct.nil
  | i, x :: xs, h => by
    rw [compR]
    refine Oct.app ?_ (comp_oct down (i + 1) xs fun z hz => h z (by simp [hz]))
    unfold partK
    split
    · exact turnB_oct (keyJ_oct x 6 (h x (by simp)))
    · exact keyJ_oct x 6 (h x (by simp))
/-- One value read off a compound key. -/
theorem comp_read (down : List Bool) (i : Nat) {x : JV} (more : List Int) (hx : FormedP x 6) (hn : NumsOK x) :
    readX (if down.getD i false = true then turnB (partK (down.getD i false) x ++ more) else partK (down.getD i false) x ++ more) = (x, (partK (down.getD i false) x).length, 0) := by
  unfold partK
  cases down.getD i false
  · rw [if_neg (by simp), if_neg (by simp)]; exact readX_key hx hn more
  · rw [if_pos rfl, if_pos rfl, turnB_app, turnB_two, turnB_len]; exact readX_key hx hn _
open Classical in
/-- What Compound answers: the bytes, the error. -/
noncomputable def compX (down : List Bool) (xs : List JV) : List Int × Int := if ∀ x ∈ xs, FormedP x 6 then (if 200 < (compR down 0 xs).length then ([], 3) else (compR down 0 xs, 0)) else ([], 2)
theorem compX_ok {down : List Bool} {xs : List JV} (h : (compX down xs).2 = 0) : (∀ x ∈ xs, FormedP x 6) ∧ (compX down xs).1 = compR down 0 xs ∧ (compR down 0 xs).length ≤ 200 := by
  unfold compX at h ⊢
  split at h
  · rename_i hf
    split at h
    · cases h
    · rename_i hl
      rw [if_pos hf, if_neg hl]
      exact ⟨hf, rfl, by omega⟩
  · cases h
theorem compX_of {down : List Bool} {xs : List JV} (h : ∀ x ∈ xs, FormedP x 6) (hl : (compR down 0 xs).length ≤ 200) : compX down xs = (compR down 0 xs, 0) := by
  unfold compX; rw [if_pos h, if_neg (by omega)]
theorem cmpR_sgn (down : List Bool) : ∀ (i : Nat) (xs ys : List JV), cmpR down i xs ys = -1 ∨ cmpR down i xs ys = 0 ∨ cmpR down i xs ys = 1
  | i, [], _ => .inr (.inl rfl)
  | i, _ :: _, [] => .inr (.inl rfl)
  | i, x :: xs, y :: ys => by
    have := cmpJ_range x y
    have ih := cmpR_sgn down (i + 1) xs ys
    rw [cmpR]
    split
    · split <;> omega
    · exact ih
theorem compR_drop (down : List Bool) (xs : List JV) (q : Nat) (h : q < xs.length) : compR down q (xs.drop q) = partK (down.getD q false) xs[q] ++ compR down (q + 1) (xs.drop (q + 1)) := by
  rw [List.drop_eq_getElem_cons h, compR]
theorem cmpR_drop (down : List Bool) (xs ys : List JV) (q : Nat) (h : q < xs.length) (h2 : q < ys.length) : cmpR down q (xs.drop q) (ys.drop q) = if cmpJ xs[q] ys[q] ≠ 0 then (if down.getD q false = true then -cmpJ xs[q] ys[q] else cmpJ xs[q] ys[q]) else cmpR down (q + 1) (xs.drop (q + 1)) (ys.drop (q + 1)) := by
  rw [List.drop_eq_getElem_cons h, List.drop_eq_getElem_cons h2, cmpR]
end Go.Proofs.YtpnbmgfnnmmokaaDoor
