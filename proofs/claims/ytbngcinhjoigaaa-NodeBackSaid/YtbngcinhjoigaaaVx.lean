/-
  The contracts of munimentref09.lists and munimentref09.Same, where both are alike.
-/
import Derived.Test.YtbngcinhjoigaaaVw
import Derived.Test.YtbngcinhjoigaaaVb
set_option linter.unusedVariables false
namespace Go.Proofs.Ytbngcinhjoigaaa
open Go.RowKit

set_option maxHeartbeats 4000000 in
theorem lists_true (A B : Option Addr) (ls : List (List Int)) (c d : Nat) (w : World) (ha : RowsC w A ls) (hb : RowsC w B ls) (hl : ls.length ≤ 100000) (hm : LenLe ls 100000) :
    Calls Try.prog 34 #[.slice A ls.length c, .slice B ls.length d] w fun e w' => e = .returned (.bool true) ∧ ∃ n, w' = w.drewN n := by
  have hne : ((ls.length : Int) != (ls.length : Int)) = false := by simp
  go_enter Try.func34, Try.ntmps34
  go_wp2
  go_loopw [5] (fun i wr => ∃ k n : Nat, k ≤ ls.length ∧ i = .int .i64 k ∧ wr = w.drewN n)
    (fun i _ => ls.length - (intOf i).toNat)
  case atStart => exact ⟨0, 0, Nat.zero_le _, rfl, rfl⟩
  case round =>
    obtain ⟨k, n, hk, rfl, rfl⟩ := hrel
    by_cases hlt : k < ls.length
    · have hkI : (k : Int) < (ls.length : Int) := by omega
      have hk0 : (0 : Int) ≤ (k : Int) := by omega
      obtain ⟨b1, o1, A1, c1, rfl, hb1, hc1, hcl1, _⟩ := ha k hlt
      obtain ⟨b2, o2, A2, c2, rfl, hb2, hc2, hcl2, _⟩ := hb k hlt
      have hx := hm.at_ hlt
      generalize ls[k] = x at *
      have HC : Hid (∀ m, Calls Try.prog 14 #[.slice A1 x.length c1, .slice A2 x.length c2] ((w.drewN n).drewN m) fun e w'' => e = .returned (.bool true) ∧ ∃ j, w'' = ((w.drewN n).drewN m).drewN j) := Lib.hid fun m =>
        (same_any A1 A2 x x c1 c2 ((w.drewN n).drewN m) hcl1 hcl2 (by omega)).mono fun e w' ⟨h, r⟩ => ⟨by rw [h]; simp [sameB], r⟩
      have HW := Lib.hid (rfl : w.drewN n = w.drewN n)
      obtain ⟨wr, hwr⟩ : ∃ wr, w.drewN n = wr := ⟨_, rfl⟩
      rw [hwr] at HC
      have e1 : wr.cell? ⟨b1, o1 + k, none⟩ = some (.slice A1 x.length c1) := by rw [← hwr]; exact hc1
      have e2 : wr.cell? ⟨b2, o2 + k, none⟩ = some (.slice A2 x.length c2) := by rw [← hwr]; exact hc2
      have HWR := Lib.hid hwr
      clear hc1 hc2 hcl1 hcl2 ha hb HW
      rw [hwr]
      clear hwr
      go_wp2
      go_quiet (first | (go_at_call 14; exact Calls.quiet_of (HC.out _)))
      go_wp2
      go_roundw
      case rel => exact ⟨k + 1, _, by omega, by go_num, by rw [← HWR.out, World.drewN_drewN]⟩
      case measure => simp [intOf]; omega
    · have hkI : ¬ (k : Int) < (ls.length : Int) := by omega
      go_wp2
      go_ret
      exact ⟨rfl, _, rfl⟩

set_option maxRecDepth 8000 in
set_option maxHeartbeats 8000000 in
theorem rsame_true (lf : Bool) (Ak : Option Addr) (ks : List (List Int)) (ck : Nat) (Av : Option Addr) (vs : List (List Int)) (cv : Nat) (Ai : Option Addr) (is : List Int) (ci : Nat) (Bk : Option Addr) (dk : Nat) (Bv : Option Addr) (dv : Nat) (Bi : Option Addr) (di : Nat) (w : World) (h : NodeAt w Ak ks ck Av vs cv Ai is ci) (h' : NodeAt w Bk ks dk Bv vs dv Bi is di)
    (h1 : LenLe ks 100000) (h2 : LenLe vs 100000) (h3 : ks.length ≤ 100000) (h4 : vs.length ≤ 100000) (h5 : is.length ≤ 100000) :
    Calls Try.prog 17 #[nodeV lf Ak ks ck Av vs cv Ai is ci, nodeV lf Bk ks dk Bv vs dv Bi is di] w fun e w' => e = .returned (.bool true) ∧ Below w.heap.size w w' := by
  obtain ⟨W, hW⟩ : ∃ W, W = (w.alloc (.cells #[.bool lf, .slice Ak ks.length ck, .slice Av vs.length cv, .slice Ai is.length ci] 29)).alloc (.cells #[.bool lf, .slice Bk ks.length dk, .slice Bv vs.length dv, .slice Bi is.length di] 29) := ⟨_, rfl⟩
  have hB0 : Below w.heap.size w W := by rw [hW]; exact ((Below.refl _ _).alloc (Nat.le_refl _) _).alloc (by simp) _
  have hF : Blk W w.heap.size 29 #[.bool lf, .slice Ak ks.length ck, .slice Av vs.length cv, .slice Ai is.length ci] := by rw [hW]; exact (Blk.new w _ _).alloc _
  have hG : Blk W (w.heap.size + 1) 29 #[.bool lf, .slice Bk ks.length dk, .slice Bv vs.length dv, .slice Bi is.length di] := by rw [hW]; exact Blk.second w _ _ _
  have hN := h.below hB0
  have hM := h'.below hB0
  obtain ⟨c0, c1, c2, c3⟩ : W.cell? ⟨w.heap.size, 0, none⟩ = some (.bool lf) ∧ W.cell? ⟨w.heap.size, 1, none⟩ = some (.slice Ak ks.length ck) ∧ W.cell? ⟨w.heap.size, 2, none⟩ = some (.slice Av vs.length cv) ∧ W.cell? ⟨w.heap.size, 3, none⟩ = some (.slice Ai is.length ci) := ⟨hF.cell 0, hF.cell 1, hF.cell 2, hF.cell 3⟩
  obtain ⟨d0, d1, d2, d3⟩ : W.cell? ⟨w.heap.size + 1, 0, none⟩ = some (.bool lf) ∧ W.cell? ⟨w.heap.size + 1, 1, none⟩ = some (.slice Bk ks.length dk) ∧ W.cell? ⟨w.heap.size + 1, 2, none⟩ = some (.slice Bv vs.length dv) ∧ W.cell? ⟨w.heap.size + 1, 3, none⟩ = some (.slice Bi is.length di) := ⟨hG.cell 0, hG.cell 1, hG.cell 2, hG.cell 3⟩
  have HK := Lib.hid (lists_true Ak Bk ks ck dk W hN.keys hM.keys h3 h1)
  have HV : Hid (∀ n, Calls Try.prog 34 #[.slice Av vs.length cv, .slice Bv vs.length dv] (W.drewN n) fun e w' => e = .returned (.bool true) ∧ ∃ m, w' = (W.drewN n).drewN m) := Lib.hid fun n => lists_true Av Bv vs cv dv (W.drewN n) hN.vals hM.vals h4 h2
  have hKids := hN.kids
  have hKids' := hM.kids
  have hne : (lf != lf) = false := by simp
  have hne2 : ((is.length : Int) != (is.length : Int)) = false := by simp
  have HW := Lib.hid hW
  clear hW h h' hN hM hF hG h1 h2
  go_enter Try.func17, Try.ntmps17
  go_wp2_with fail
  rw [← HW.out]
  refine HK.out.mono ?_
  rintro e w1 ⟨rfl, n1, rfl⟩
  go_wp2_with fail
  refine (HV.out n1).mono ?_
  rintro e w2 ⟨rfl, n2, rfl⟩
  go_wp2_with fail
  go_loopw [5] (fun i wr => ∃ k n : Nat, k ≤ is.length ∧ i = .int .i64 k ∧ wr = W.drewN n)
    (fun i _ => is.length - (intOf i).toNat)
  case atStart => exact ⟨0, _, Nat.zero_le _, rfl, rfl⟩
  case round =>
    obtain ⟨k, n, hk, rfl, rfl⟩ := hrel
    by_cases hlt : k < is.length
    · have hkI : (k : Int) < (is.length : Int) := by omega
      have hk0 : (0 : Int) ≤ (k : Int) := by omega
      obtain ⟨b1, o1, rfl, _, hca⟩ := hKids.i8 hlt
      obtain ⟨b2, o2, rfl, _, hcb⟩ := hKids'.i8 hlt
      have hxx : (is[k] != is[k]) = false := by simp
      generalize is[k] = x at *
      go_wp2
      go_quiet (fail)
      go_wp2
      go_roundw
      case rel => exact ⟨k + 1, _, by omega, by go_num, rfl⟩
      case measure => simp [intOf]; omega
    · have hkI : ¬ (k : Int) < (is.length : Int) := by omega
      go_wp2
      go_ret
      exact ⟨rfl, below_drewN hB0 _⟩
end Go.Proofs.Ytbngcinhjoigaaa
