/-
  The contracts of the program's reader: next, text.
-/
import Derived.Test.YtpnbmgfnnmmokaaDoorQs
import Derived.Test.YtpnbmgfnnmmokaaDoorOi
set_option linter.unusedVariables false
namespace Go.Proofs.YtpnbmgfnnmmokaaDoor
open Go.RowKit

/-- Where the reader stands behind one byte. -/
def stepP (b : List Int) (p : Nat) : Nat := if p < b.length then p + 1 else p
def stepN (b : List Int) (p : Nat) (no : Bool) : Bool := if p < b.length then no else true
def byteAt (b : List Int) (p : Nat) : Int := b.getD p 0
theorem byteAt_lt {b : List Int} {p : Nat} (h : p < b.length) : byteAt b p = b[p] := by unfold byteAt; rw [List.getD_eq_getElem?_getD, List.getElem?_eq_getElem h]; rfl
theorem byteAt_ge {b : List Int} {p : Nat} (h : b.length ≤ p) : byteAt b p = 0 := by unfold byteAt; rw [List.getD_eq_getElem?_getD, List.getElem?_eq_none h]; rfl
theorem RdAt.chg {w w' : World} {r : Nat} {A : Option Addr} {c : Nat} {b : List Int} {p : Nat} {no : Bool} (h : RdAt w r A c b p no) {S : Nat → Prop} (hc : Chg w w' S) (hr : ¬ S r) : RdAt w' r A c b p no := Blk.chg h hc hr
theorem Cells.chgR {w w' : World} {r : Nat} {A : Option Addr} {xs : List Value} (h : Cells w r A xs) (hr : r < w.heap.size) (hc : Chg w w' (fun k => k = r)) : Cells w' r A xs := h.keep fun p hp => World.cell?_of_block (hc.block p.block (by omega) (by omega))

set_option maxHeartbeats 2000000 in
theorem next_any (r : Nat) (A : Option Addr) (c : Nat) (b : List Int) (p : Nat) (no : Bool) (w : World) (hR : RdAt w r A c b p no) (hc : Cells w r A (U8 b)) (hp : p ≤ b.length) (hl : b.length ≤ 10000000000000) :
    Calls Tryd.prog 57 #[.pointer (some ⟨r, 0, none⟩)] w fun e w' => e = .returned (.int .u8 (byteAt b p)) ∧ RdAt w' r A c b (stepP b p) (stepN b p no) ∧ Chg w w' (fun k => k = r) := by
  have hRb : Blk w r 54 #[.slice A b.length c, .int .i64 p, .bool no] := hR
  have hrl := hRb.lt
  have HS : Hid (∀ w', Calm w w' → w'.cell? ⟨r, 0, none⟩ = some (.slice A b.length c) ∧ w'.cell? ⟨r, 1, none⟩ = some (.int .i64 p)) := Lib.hid fun w' hw' => by
    have h := hRb.below hw' hrl
    exact ⟨h.cell 0, h.cell 1⟩
  have HRB := Lib.hid hRb
  by_cases hlt : p < b.length
  · have hI : (p : Int) < (b.length : Int) := by omega
    have hIge : decide ((b.length : Int) ≤ (p : Int)) = false := by rw [decide_eq_false_iff_not]; omega
    have hp1 : IntKind.i64.wrap ((p : Int) + 1) = (p : Int) + 1 := by rw [IntKind.wrap_i64]; omega
    have hp2 : IntKind.i64.wrap (p : Int) = (p : Int) := by rw [IntKind.wrap_i64]; omega
    have hS : stepP b p = p + 1 ∧ stepN b p no = no ∧ byteAt b p = b[p] := by unfold stepP stepN; rw [if_pos hlt, if_pos hlt]; exact ⟨rfl, rfl, byteAt_lt hlt⟩
    obtain ⟨bb, off, rfl, hbb, hcell⟩ := hc.u8 hlt
    obtain ⟨e1, e2, e3⟩ := hS
    rw [e1, e2, e3]
    generalize b[p] = x at *
    have hbc : w.cell? ⟨bb, off + p, none⟩ = some (.int .u8 x) := hcell
    have HE : Hid (((p + 1 : Nat) : Int) = (p : Int) + 1) := Lib.hid (by omega)
    have HBC := Lib.hid hbc
    clear hc hcell e1 e2 e3 hR hRb hbc
    go_enter Tryd.func57, Tryd.ntmps57
    go_wp2
    refine region_calm (by kernel_rfl) (by kernel_rfl) ?_
    repeat (first
      | go_big_quiet_skip
      | (go_big_quiet_want
         apply quiet_at
         · intro w' hw'
           (obtain ⟨c0, c1⟩ := HS.out _ (by assumption))
           go_simp
           first
             | done
             | exact rfl
             | (fail)
         (try simp only [Act.put, List.setIfInBounds_toArray, List.set_cons_zero, List.set_cons_succ])
         go_big_quiet_on))
    refine wpQuiet_nil ?_
    intro w5 hb5
    obtain ⟨w1, hw1⟩ : ∃ w1, w1 = w5 := ⟨_, rfl⟩
    rw [← hw1] at hb5 ⊢
    clear hw1
    have hb1 : Below w.heap.size w w1 := hb5
    have hR1 := HRB.out.below hb1 hrl
    obtain ⟨c0, c1, f1⟩ : w1.cell? ⟨r, 0, none⟩ = some (.slice (some ⟨bb, off, none⟩) b.length c) ∧ w1.cell? ⟨r, 1, none⟩ = some (.int .i64 p) ∧ w1.frozen? ⟨r, 1, none⟩ = false := ⟨hR1.cell 0, hR1.cell 1, hR1.free 1⟩
    obtain ⟨W, hW⟩ : ∃ W, W = w1.setCell ⟨r, 1, none⟩ (.int .i64 ((p : Int) + 1)) := ⟨_, rfl⟩
    have hWR : Blk W r 54 #[.slice (some ⟨bb, off, none⟩) b.length c, .int .i64 ((p : Int) + 1), .bool no] := by rw [hW]; simpa using hR1.set_ 1 (.int .i64 ((p : Int) + 1))
    have hCW : Chg w W (fun k => k = r) := by rw [hW]; exact (Chg.of_below hb1 _).trans (Chg.setCell w1 ⟨r, 1, none⟩ _) fun i hi => .inl hi
    have hbcW : W.cell? ⟨bb, off + p, none⟩ = some (.int .u8 x) := (World.cell?_of_block (hCW.block bb (by omega) (by show ¬ bb = r; omega))).trans HBC.out
    have HS2 : Hid (∀ w', Calm W w' → w'.cell? ⟨r, 0, none⟩ = some (.slice (some ⟨bb, off, none⟩) b.length c) ∧ w'.cell? ⟨r, 1, none⟩ = some (.int .i64 ((p : Int) + 1)) ∧ w'.cell? ⟨bb, off + p, none⟩ = some (.int .u8 x)) := Lib.hid fun w' hw' => by
      have h := hWR.below hw' hWR.lt
      exact ⟨h.cell 0, h.cell 1, (hw'.cell (p := ⟨bb, off + p, none⟩) (World.block_lt_of_cell? W _ hbcW)).trans hbcW⟩
    have HW := Lib.hid hW
    clear hW hbcW
    go_upto_region 5 with fail
    rw [← HW.out]
    clear c0 c1 f1
    refine region_calm (by kernel_rfl) (by kernel_rfl) ?_
    repeat (first
      | go_big_quiet_skip
      | (go_big_quiet_want
         apply quiet_at
         · intro w' hw'
           (obtain ⟨c0, c1, c2⟩ := HS2.out _ (by assumption))
           go_simp
           first
             | done
             | exact rfl
             | (fail)
         (try simp only [Act.put, List.setIfInBounds_toArray, List.set_cons_zero, List.set_cons_succ])
         go_big_quiet_on))
    refine wpQuiet_nil ?_
    intro w5 hb5
    go_wp2
    go_ret
    have h5 : Below W.heap.size W w5 := hb5
    exact ⟨rfl, by unfold RdAt; rw [HE.out]; exact hWR.below h5 hWR.lt, hCW.trans (Chg.of_below h5 (fun k => k = r)) fun i hi => .inl hi⟩
  · have hI : ¬ (p : Int) < (b.length : Int) := by omega
    have hIge : decide ((b.length : Int) ≤ (p : Int)) = true := by rw [decide_eq_true_iff]; omega
    have hS : stepP b p = p ∧ stepN b p no = true ∧ byteAt b p = 0 := by unfold stepP stepN; rw [if_neg hlt, if_neg hlt]; exact ⟨rfl, rfl, byteAt_ge (by omega)⟩
    obtain ⟨e1, e2, e3⟩ := hS
    rw [e1, e2, e3]
    clear hc e1 e2 e3 hR hRb
    go_enter Tryd.func57, Tryd.ntmps57
    go_wp2
    refine region_calm (by kernel_rfl) (by kernel_rfl) ?_
    repeat (first
      | go_big_quiet_skip
      | (go_big_quiet_want
         apply quiet_at
         · intro w' hw'
           (obtain ⟨c0, c1⟩ := HS.out _ (by assumption))
           go_simp
           first
             | done
             | exact rfl
             | (fail)
         (try simp only [Act.put, List.setIfInBounds_toArray, List.set_cons_zero, List.set_cons_succ])
         go_big_quiet_on))
    refine wpQuiet_nil ?_
    intro w5 hb5
    obtain ⟨w1, hw1⟩ : ∃ w1, w1 = w5 := ⟨_, rfl⟩
    rw [← hw1] at hb5 ⊢
    clear hw1
    have hb1 : Below w.heap.size w w1 := hb5
    have hR1 := HRB.out.below hb1 hrl
    obtain ⟨c2, f2⟩ : w1.cell? ⟨r, 2, none⟩ = some (.bool no) ∧ w1.frozen? ⟨r, 2, none⟩ = false := ⟨hR1.cell 2, hR1.free 2⟩
    go_wp2
    go_ret
    exact ⟨rfl, by unfold RdAt; simpa using hR1.set_ 2 (.bool true), (Chg.of_below hb1 _).trans (Chg.setCell w1 ⟨r, 2, none⟩ _) fun i hi => .inl hi⟩

/-- What is left of a text's bytes, some taken. -/
def joinT (out : List Int) (X : Option (List Int × List Int)) : Option (List Int × List Int) := match X with
  | none => none
  | some (s, t) => if 60 < (out ++ s).length then none else some (out ++ s, t)
theorem joinT_start (b : List Int) : joinT [] (getB b) = getG true b := by
  unfold joinT getG
  cases getB b with
  | none => rfl
  | some q => simp
theorem joinT_over {out : List Int} (h : 60 < out.length) (X : Option (List Int × List Int)) : joinT out X = none := by
  unfold joinT
  cases X with
  | none => rfl
  | some q => simp only; rw [if_pos (by rw [List.length_append]; omega)]
theorem getB_nil : getB [] = none := rfl
theorem getB_one (x : Int) : getB [x] = none := rfl
theorem joinT_byte {out r : List Int} {x d : Int} (hx : x ≠ 0) : joinT out (getB (x :: d :: r)) = joinT (out ++ [x]) (getB (d :: r)) := by
  rw [getB, if_neg hx]
  cases getB (d :: r) with
  | none => rfl
  | some q => simp [joinT]
theorem joinT_zero {out r : List Int} : joinT out (getB (0 :: 255 :: r)) = joinT (out ++ [0]) (getB r) := by
  rw [getB, if_pos rfl, if_neg (by omega), if_pos rfl]
  cases getB r with
  | none => rfl
  | some q => simp [joinT]
theorem joinT_bad {out r : List Int} {d : Int} (h0 : d ≠ 0) (h1 : d ≠ 255) : joinT out (getB (0 :: d :: r)) = none := by
  rw [getB, if_pos rfl, if_neg h0, if_neg h1]; rfl
theorem joinT_end {out r : List Int} (h : out.length ≤ 60) : joinT out (getB (0 :: 0 :: r)) = some (out, r) := by
  rw [getB, if_pos rfl, if_pos rfl]
  simp only [joinT, List.append_nil]
  rw [if_neg (by omega)]
end Go.Proofs.YtpnbmgfnnmmokaaDoor
