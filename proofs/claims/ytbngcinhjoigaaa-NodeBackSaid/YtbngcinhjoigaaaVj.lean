/-
  The page of a node: plain words; the contracts of node.Formed and node.Write.
-/
import Derived.Test.YtbngcinhjoigaaaVf
import Derived.Test.YtbngcinhjoigaaaVh
import Derived.Deep.RegionHeld3
set_option linter.unusedVariables false
namespace Go.Proofs.Ytbngcinhjoigaaa
open Go.RowKit

/-- An entry's bytes; a page's first bytes; the bytes of so many entries. -/
def entL (lf : Bool) (ks vs : List (List Int)) (is : List Int) (i : Nat) : List Int :=
  ((ks.getD i []).length : Int) :: (if lf = true then be16 ((vs.getD i []).length : Int) ++ (ks.getD i [] ++ vs.getD i []) else ks.getD i [] ++ be32 (is.getD (i + 1) 0))
def headL (lf : Bool) (ks : List (List Int)) (is : List Int) : List Int :=
  (if lf = true then 1 else 2) :: (be16 (ks.length : Int) ++ (if lf = true then [] else be32 (is.getD 0 0)))
def wrTo (lf : Bool) (ks vs : List (List Int)) (is : List Int) : Nat → List Int
  | 0 => headL lf ks is
  | k + 1 => wrTo lf ks vs is k ++ entL lf ks vs is k
theorem wrTo_len (lf : Bool) (ks vs : List (List Int)) (is : List Int) : ∀ k, (wrTo lf ks vs is k).length = sizeTo lf ks vs k
  | 0 => by cases lf <;> simp [wrTo, headL, sizeTo, be16, be32]
  | k + 1 => by
    rw [wrTo, sizeTo, List.length_append, wrTo_len lf ks vs is k]
    cases lf <;> simp [entL, entN, be16, be32] <;> omega
theorem sizeTo_mono (lf : Bool) (ks vs : List (List Int)) {a b : Nat} (h : a ≤ b) : sizeTo lf ks vs a ≤ sizeTo lf ks vs b := by
  induction b with
  | zero => obtain rfl : a = 0 := by omega
            exact Nat.le_refl _
  | succ b ih =>
    rcases Nat.lt_or_ge a (b + 1) with h1 | h1
    · have := ih (by omega); rw [sizeTo]; omega
    · obtain rfl : a = b + 1 := by omega
      exact Nat.le_refl _
/-- Is a node formed? -/
def frmB (lf : Bool) (ks vs : List (List Int)) (is : List Int) : Bool := shB lf ks vs is && decide (sizeTo lf ks vs ks.length ≤ 1024)
/-- Its page. -/
def pageL (lf : Bool) (ks vs : List (List Int)) (is : List Int) : List Int := wrTo lf ks vs is ks.length ++ zerosL (1024 - sizeTo lf ks vs ks.length)
theorem pageL_len {lf : Bool} {ks vs : List (List Int)} {is : List Int} (h : sizeTo lf ks vs ks.length ≤ 1024) : (pageL lf ks vs is).length = 1024 := by
  rw [pageL, List.length_append, wrTo_len, zerosL, List.length_replicate]; omega

set_option maxHeartbeats 2000000 in
theorem formed_any (lf : Bool) (Ak : Option Addr) (ks : List (List Int)) (ck : Nat) (Av : Option Addr) (vs : List (List Int)) (cv : Nat) (Ai : Option Addr) (is : List Int) (ci : Nat) (w : World) (h : NodeAt w Ak ks ck Av vs cv Ai is ci) (h1 : LenLe ks 100000) (h2 : LenLe vs 100000) (h3 : ks.length ≤ 100000) (h4 : vs.length ≤ 1000000) (h5 : is.length ≤ 1000000) :
    Calls Try.prog 25 #[nodeV lf Ak ks ck Av vs cv Ai is ci] w fun e w' => e = .returned (.bool (frmB lf ks vs is)) ∧ Below w.heap.size w w' := by
  have HR : Hid (frmB lf ks vs is = (shB lf ks vs is && decide (sizeTo lf ks vs ks.length ≤ 1024))) := Lib.hid rfl
  obtain ⟨W, hW⟩ : ∃ W, W = w.alloc (.cells #[.bool lf, .slice Ak ks.length ck, .slice Av vs.length cv, .slice Ai is.length ci] 25) := ⟨_, rfl⟩
  have hF : Four W w.heap.size (.bool lf) (.slice Ak ks.length ck) (.slice Av vs.length cv) (.slice Ai is.length ci) := by rw [hW]; exact Four.new w _ _ _ _ _
  have hB0 : Below w.heap.size w W := by rw [hW]; exact (Below.refl _ _).alloc (Nat.le_refl _) _
  have hWz : w.heap.size < W.heap.size := by rw [hW]; simp
  have hN := h.below hB0
  have HW := Lib.hid hW
  have HC := Lib.hid (shaped_any lf Ak ks ck Av vs cv Ai is ci W hN h3 h4 h5)
  have HSZ : Hid (∀ w', Below W.heap.size W w' → Calls Try.prog 18 #[nodeV lf Ak ks ck Av vs cv Ai is ci] w' fun e w'' => e = .returned (.int .i64 (sizeTo lf ks vs ks.length : Nat)) ∧ Below w'.heap.size w' w'') := Lib.hid fun w' hb => size_any lf Ak ks ck Av vs cv Ai is ci w' (hN.below hb) h1 h2 h3 h4
  clear hW h h1 h2
  go_enter Try.func25, Try.ntmps25
  go_wp2_with fail
  rw [← HW.out]
  cases hs : shB lf ks vs is with
  | false =>
    rw [hs] at HC HR
    clear hs
    refine HC.out.mono ?_
    rintro e w1 ⟨rfl, hb1⟩
    go_wp2
    go_ret
    exact ⟨ret_bool (by rw [HR.out]; rfl), hB0.trans (hb1.mono (Nat.le_of_lt hWz))⟩
  | true =>
    rw [hs] at HC HR
    clear hs
    refine HC.out.mono ?_
    rintro e w1 ⟨rfl, hb1⟩
    obtain ⟨c0, c1, c3, c4⟩ := hF.below hb1 hWz
    have HS1 := Lib.hid (HSZ.out w1 hb1)
    generalize sizeTo lf ks vs ks.length = sz at *
    go_wp2_with (go_at_call 18; refine HS1.out.mono ?_; rintro e w2 ⟨rfl, hb2⟩)
    go_ret
    have hB1 := hB0.trans (hb1.mono (Nat.le_of_lt hWz))
    exact ⟨ret_bool (by rw [HR.out, Bool.true_and, Bool.eq_iff_iff]; simp; omega), hB1.trans (hb2.mono hB1.size)⟩

/-- What Write answers. -/
def WriteRes (w : World) (ok : Bool) (p : List Int) (e : Ending) (w' : World) : Prop :=
  (∃ v, e = .returned (.tuple #[v, .int .i64 (if ok = true then 0 else 2)]) ∧ Own w' w.heap.size v (if ok = true then p else [])) ∧ Below w.heap.size w w'
theorem madeCells_one (z : Value) (n : Nat) : madeCells #[z] n = (List.replicate n z).toArray := by
  apply Array.ext
  · simp [madeCells]
  · intro i h1 h2
    simp [madeCells, Nat.mod_one]
theorem make1024 (w : World) : (Instr.makeSlice 26 (.int .i64 0) (.int .i64 1024)).run Try.prog w = .ok (.slice (some ⟨w.heap.size, 0, none⟩) 0 1024) (w.alloc (.cells (U8 (zerosL 1024)).toArray 5)) := by
  obtain ⟨i0, hi, hz0, hz1, hz2⟩ := info_parts info8
  have h := run_make (P := Try.prog) w 26 5 i0 (.int .u8 0) Try.underlying26 hi hz0 .i64 .i64 0 1024 (by decide) (by decide) (by rw [hz2]; decide) (by decide)
  have e1 : (0 : Int).toNat = 0 := rfl
  have e2 : (1024 : Int).toNat = 1024 := rfl
  have e3 : (Value.int .u8 0).cells = #[.int .u8 0] := rfl
  rw [e1, e2, e3, hz1, Nat.mul_one, madeCells_one] at h
  have e4 : U8 (zerosL 1024) = List.replicate 1024 (.int .u8 0) := by rw [U8, zerosL, List.map_replicate]
  rw [e4]
  exact h
theorem OwnZ.own {w : World} {base g N n : Nat} {l p : List Int} (h : OwnZ w base g N n l) (hN : N ≤ maxLen) (hp : l ++ zerosL (N - n) = p) : Own w base (.slice (some ⟨g, 0, none⟩) N N) p := by
  subst hp
  have hl : (l ++ zerosL (N - n)).length = N := by have := h.fits; have := h.len; simp [zerosL]; omega
  refine ⟨by simp, .inr ⟨g, N, _, by rw [hl], h.low, h.blk, by rw [hl]; exact Nat.le_refl _, hN, by rw [Nat.mul_one]; simp only [List.size_toArray, List.length_map]; exact hl, ?_⟩⟩
  rw [Nat.mul_one, List.take_of_length_le (by simp)]
end Go.Proofs.Ytbngcinhjoigaaa
