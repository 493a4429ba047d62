/-
  The contract of journal.get16; rows of rows of bytes.
-/
import Derived.Test.YtcgnfkiimnpdcaaJc
import Derived.Deep.QuietTactic
import Derived.BigQuiet
set_option linter.unusedVariables false
namespace Go.Proofs.Ytcgnfkiimnpdcaa
open Go.RowKit

theorem shl_or16 (x c : Int) (h0 : 0 ≤ x) (h1 : x ≤ 255) (c0 : 0 ≤ c) (c1 : c ≤ 255) : bits .or .u16 (x * 256) c = x * 256 + c := by
  rw [u16_or _ _ (by omega) (by omega) c0 (by omega)]
  have e : (x * 256).toNat = x.toNat <<< 8 := by rw [Nat.shiftLeft_eq]; omega
  rw [e, ← Nat.shiftLeft_add_eq_or_of_lt (by omega), Nat.shiftLeft_eq]
  omega
set_option maxHeartbeats 1000000 in
theorem get16_any (b off : Nat) (x y : Int) (n c : Nat) (w : World) (h0 : w.cell? ⟨b, off, none⟩ = some (.int .u8 x)) (h1 : w.cell? ⟨b, off + 1, none⟩ = some (.int .u8 y)) (hx : 0 ≤ x ∧ x ≤ 255) (hy : 0 ≤ y ∧ y ≤ 255) (hn : 2 ≤ n) (hcap : n ≤ c) (hcm : c ≤ 9223372036854775807) :
    Calls Try.prog 40 #[.slice (some ⟨b, off, none⟩) n c] w fun e w' => e = .returned (.int .u16 (x * 256 + y)) ∧ Below w.heap.size w w' := by
  have hn1 : (1 : Int) < (n : Int) := by omega
  have hn0 : (0 : Int) < (n : Int) := by omega
  have HO := Lib.hid (shl_or16 x y hx.1 hx.2 hy.1 hy.2)
  go_enter Try.func40, Try.ntmps40
  go_wp2
  go_region
  go_wp2
  go_ret
  refine ⟨?_, (Below.refl _ _).drew⟩
  rw [← HO.out]
  rfl
/-- A number of two bytes of a row. -/
theorem get16_at (b off i : Nat) (s : List Int) (n c : Nat) (w : World) (hc : Cells w w.heap.size (some ⟨b, off, none⟩) (U8 s)) (ho : Oct s) (hi : i + 2 ≤ s.length) (hn : 2 ≤ n) (hcap : n ≤ c) (hcm : c ≤ 9223372036854775807) :
    Calls Try.prog 40 #[.slice (some ⟨b, off + i, none⟩) n c] w fun e w' => e = .returned (.int .u16 (at16 s i)) ∧ Below w.heap.size w w' := by
  have e0 := hc.knownU (show i < s.length by omega)
  have e1 := hc.knownU (show i + 1 < s.length by omega)
  have o0 := ho.at_ (List.getElem?_eq_getElem (show i < s.length by omega))
  have o1 := ho.at_ (List.getElem?_eq_getElem (show i + 1 < s.length by omega))
  have := get16_any b (off + i) _ _ n c w e0 (by rw [Nat.add_assoc]; exact e1) o0 o1 hn hcap hcm
  have e : (at16 s i : Int) = s[i] * 256 + s[i + 1] := by
    unfold at16
    rw [List.getD_eq_getElem?_getD, List.getD_eq_getElem?_getD, List.getElem?_eq_getElem (show i < s.length by omega), List.getElem?_eq_getElem (show i + 1 < s.length by omega)]
    simp only [Option.getD_some]
    omega
  rw [e]
  exact this

/-- The slice v has the bytes l, in a row of bytes. -/
def RowV (w : World) (v : Value) (l : List Int) : Prop := ∃ A c, v = .slice A l.length c ∧ Bytes w A l ∧ l.length ≤ c ∧ c ≤ 9223372036854775807 ∧ Oct l
theorem RowV.keep {w w' : World} {v : Value} {l : List Int} (h : RowV w v l) (hk : BK w w') : RowV w' v l := by
  obtain ⟨A, c, rfl, h1, h2⟩ := h
  exact ⟨A, c, rfl, h1.keep hk, h2⟩
/-- Rows of bytes. -/
def RowsV (w : World) : List Value → List (List Int) → Prop
  | [], [] => True
  | v :: vs, l :: ls => RowV w v l ∧ RowsV w vs ls
  | _, _ => False
theorem RowsV.len {w : World} : ∀ {vs : List Value} {ls : List (List Int)}, RowsV w vs ls → vs.length = ls.length
  | [], [], _ => rfl
  | _ :: _, _ :: _, h => by simp [h.2.len]
  | [], _ :: _, h => h.elim
  | _ :: _, [], h => h.elim
theorem RowsV.keep {w w' : World} (hk : BK w w') : ∀ {vs : List Value} {ls : List (List Int)}, RowsV w vs ls → RowsV w' vs ls
  | [], [], _ => trivial
  | _ :: _, _ :: _, h => ⟨h.1.keep hk, h.2.keep hk⟩
  | [], _ :: _, h => h.elim
  | _ :: _, [], h => h.elim
theorem RowsV.snoc {w : World} {v : Value} {l : List Int} (hv : RowV w v l) : ∀ {vs : List Value} {ls : List (List Int)}, RowsV w vs ls → RowsV w (vs ++ [v]) (ls ++ [l])
  | [], [], _ => ⟨hv, trivial⟩
  | _ :: _, _ :: _, h => ⟨h.1, h.2.snoc hv⟩
  | [], _ :: _, h => h.elim
  | _ :: _, [], h => h.elim
theorem RowsV.at_ {w : World} : ∀ {vs : List Value} {ls : List (List Int)}, RowsV w vs ls → ∀ (k : Nat) (h : k < vs.length) (h' : k < ls.length), RowV w (vs[k]) (ls[k])
  | _ :: _, _ :: _, h, 0, _, _ => h.1
  | _ :: _, _ :: _, h, k + 1, h1, h2 => h.2.at_ k (by simpa using h1) (by simpa using h2)
  | [], _, _, k, h1, _ => absurd h1 (by simp)
  | _ :: _, [], h, _, _, _ => h.elim
theorem RowV.one {w : World} {v : Value} {l : List Int} (h : RowV w v l) : v.oneCell' = true := by obtain ⟨A, c, rfl, _⟩ := h; rfl
theorem RowsV.ones {w : World} : ∀ {vs : List Value} {ls : List (List Int)}, RowsV w vs ls → ∀ u ∈ vs, u.oneCell' = true
  | [], _, _, u, hu => by simp at hu
  | v :: vs, l :: ls, h, u, hu => by
    rcases List.mem_cons.1 hu with rfl | hu
    · exact h.1.one
    · exact h.2.ones u hu
  | _ :: _, [], h, _, _ => h.elim
/-- A row of rows of bytes that the call owns. -/
def OwnR (w : World) (base : Nat) (v : Value) (ls : List (List Int)) : Prop := ∃ vs, w.ownsRow base 27 1 v vs.length vs ∧ RowsV w vs ls
theorem OwnR.nil (w : World) (base : Nat) : OwnR w base (.slice none 0 0) [] := ⟨[], World.ownsRow_nil _ _ _ _, trivial⟩
theorem OwnR.shape {w : World} {base : Nat} {v : Value} {ls : List (List Int)} (h : OwnR w base v ls) : ∃ A c vs, v = .slice A ls.length c ∧ ls.length ≤ c ∧ c ≤ maxLen ∧ Cells w w.heap.size A vs ∧ RowsV w vs ls := by
  obtain ⟨vs, h1, h2⟩ := h
  obtain ⟨A, c, e, hc1, hc2, hc⟩ := ownsRow_shape h1
  rw [h2.len] at e hc1
  exact ⟨A, c, vs, e, hc1, hc2, hc, h2⟩
end Go.Proofs.Ytcgnfkiimnpdcaa
