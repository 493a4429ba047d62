/-
  A journal in memory; the contracts of area, New, Room, Records, Sync.
-/
import Derived.Test.YtcgnfkiimnpdcaaJb
import Derived.Test.YtcgnfkiimnpdcaaDx
import Derived.Deep.RegionWith
set_option linter.unusedVariables false
namespace Go.Proofs.Ytcgnfkiimnpdcaa
open Go.RowKit

theorem BKA.trans {a b c : World} (h : BKA a b) (k : BKA b c) : BKA a c := fun i cur t mk ht hi => by
  have h1 := h i cur t mk ht hi
  exact (k i cur t mk ht (h1.trans hi)).trans h1
theorem BKA.refl (w : World) : BKA w w := fun _ _ _ _ _ _ => rfl
/-- A journal. -/
structure JS where
  frm : Nat
  cnt : Nat
  E : Int
  nxt : Nat
  rcs : Nat
  over : Bool
def jcells (g : Nat) (j : JS) : Array Value := #[.pointer (some ⟨g, 0, none⟩), .int .i64 j.frm, .int .i64 j.cnt, .int .u64 j.E, .int .i64 j.nxt, .int .i64 j.rcs, .bool j.over]
def JAt (w : World) (a g : Nat) (j : JS) : Prop := Blk w a 72 (jcells g j)
theorem free_j : Free 72 := ⟨by decide, by decide⟩
/-- Blocks that neither a disk nor a journal writes are as they were. -/
def BKJ (w w' : World) : Prop := ∀ (k : Nat) (cur : Array Value) (t : TypeId) (mk : Nat × Nat), Free t → t ≠ 72 → w.heap[k]? = some (Obj.cells cur t mk) → w'.heap[k]? = w.heap[k]?
theorem BKA.j {w w' : World} (h : BKA w w') : BKJ w w' := fun k cur t mk ht _ hk => h k cur t mk ht hk
theorem BKJ.trans {a b c : World} (h : BKJ a b) (k : BKJ b c) : BKJ a c := fun i cur t mk ht hj hi => by
  have h1 := h i cur t mk ht hj hi
  exact (k i cur t mk ht hj (h1.trans hi)).trans h1
theorem BKJ.refl (w : World) : BKJ w w := fun _ _ _ _ _ _ _ => rfl
theorem BKJ.b {w w' : World} (h : BKJ w w') : BK w w' := fun k cur mk hk => h k cur _ mk ⟨by decide, by decide⟩ (by decide) hk
theorem BKJ.blk {w w' : World} (h : BKJ w w') {g : Nat} {t : TypeId} {cs : Array Value} (hb : Blk w g t cs) (ht : Free t) (hj : t ≠ 72) : Blk w' g t cs := (h g cs t (0, 0) ht hj hb).trans hb
theorem BKJ.set_ {w : World} {a : Nat} {cs : Array Value} (h : Blk w a 72 cs) (i : Nat) (u : Value) : BKJ w (w.setCell ⟨a, i, none⟩ u) := fun k cur t mk ht hj hk => by
  by_cases e : k = a
  · subst e
    have := h.symm.trans hk
    injection this with this
    injection this with _ h2 _
    exact absurd h2.symm hj
  · exact Below.heap_setCell w ⟨a, i, none⟩ u k e

set_option maxHeartbeats 1000000 in
theorem room_any (a g : Nat) (j : JS) (w : World) (h : JAt w a g j) (hc : j.cnt ≤ 1000000) (hn : j.nxt ≤ 1000000) :
    Calls Try.prog 16 #[.pointer (some ⟨a, 0, none⟩)] w fun e w' => e = .returned (.int .i64 ((j.cnt : Int) - j.nxt)) ∧ Below w.heap.size w w' := by
  have c2 : w.cell? ⟨a, 2, none⟩ = some (.int .i64 j.cnt) := h.cell 2
  have c4 : w.cell? ⟨a, 4, none⟩ = some (.int .i64 j.nxt) := h.cell 4
  go_enter Try.func16, Try.ntmps16
  go_wp2
  go_region
  go_wp2
  go_ret
  exact ⟨rfl, (Below.refl _ _).drew⟩
set_option maxHeartbeats 1000000 in
theorem room_nil (w : World) :
    Calls Try.prog 16 #[.pointer none] w fun e w' => e = .returned (.int .i64 0) ∧ w = w' := by
  go_enter Try.func16, Try.ntmps16
  go_wp2
  go_ret
  exact ⟨rfl, rfl⟩
set_option maxHeartbeats 1000000 in
theorem records_any (a g : Nat) (j : JS) (w : World) (h : JAt w a g j) :
    Calls Try.prog 17 #[.pointer (some ⟨a, 0, none⟩)] w fun e w' => e = .returned (.int .i64 j.rcs) ∧ w = w' := by
  have c5 : w.cell? ⟨a, 5, none⟩ = some (.int .i64 j.rcs) := h.cell 5
  go_enter Try.func17, Try.ntmps17
  go_wp2
  go_ret
  exact ⟨rfl, rfl⟩
set_option maxHeartbeats 1000000 in
theorem records_nil (w : World) :
    Calls Try.prog 17 #[.pointer none] w fun e w' => e = .returned (.int .i64 0) ∧ w = w' := by
  go_enter Try.func17, Try.ntmps17
  go_wp2
  go_ret
  exact ⟨rfl, rfl⟩
set_option maxHeartbeats 1000000 in
theorem jsync_nil (w : World) :
    Calls Try.prog 15 #[.pointer none] w fun e w' => e = .returned (.int .i64 7) ∧ w = w' := by
  go_enter Try.func15, Try.ntmps15
  go_wp2
  go_ret
  exact ⟨rfl, rfl⟩
set_option maxHeartbeats 1000000 in
theorem jappend_nil (v : Value) (w : World) :
    Calls Try.prog 14 #[.pointer none, v] w fun e w' => e = .returned (.int .i64 7) ∧ w = w' := by
  go_enter Try.func14, Try.ntmps14
  go_wp2
  go_ret
  exact ⟨rfl, rfl⟩

/-- Is it an area of a disk? -/
def areaB (size frm cnt : Int) : Bool := decide (0 ≤ frm ∧ 0 ≤ cnt ∧ frm ≤ size ∧ cnt ≤ size - frm)
section
variable {B : Nat} {w : World} {L : List (Nat × DS)} (h : Many B w L) {i g : Nat} {s : DS} (hi : L[i]? = some (g, s))
include h hi
set_option maxHeartbeats 2000000 in
theorem area_any (frm cnt : Int) (hs0 : 0 ≤ s.size) (hs1 : s.size ≤ 65536) (hc : -9223372036854775808 ≤ cnt ∧ cnt ≤ 9223372036854775807) (hf : -9223372036854775808 ≤ frm ∧ frm ≤ 9223372036854775807) :
    Calls Try.prog 27 #[.pointer (some ⟨g, 0, none⟩), .int .i64 frm, .int .i64 cnt] w fun e w' => e = .returned (.bool (areaB s.size frm cnt)) ∧ w = w' := by
  have HSZ := Lib.hid (many_size (i := i) h hi)
  obtain ⟨z, hz⟩ : ∃ z, s.size = z := ⟨_, rfl⟩
  rw [hz] at HSZ hs0 hs1 ⊢
  have HA : Hid (areaB z frm cnt = decide (0 ≤ frm ∧ 0 ≤ cnt ∧ frm ≤ z ∧ cnt ≤ z - frm)) := Lib.hid rfl
  generalize areaB z frm cnt = r at *
  by_cases h1 : 0 ≤ frm
  · by_cases h2 : 0 ≤ cnt
    · by_cases h3 : frm ≤ z
      · have hr := HA.out
        clear HA
        simp only [h1, h2, h3, true_and] at hr
        subst hr
        go_enter Try.func27, Try.ntmps27
        go_wp2_with (go_at_call 37; refine HSZ.out.mono ?_; rintro e w1 ⟨rfl, rfl⟩)
        go_ret
        exact ⟨rfl, rfl⟩
      · have hr := HA.out
        clear HA
        simp only [h1, h2, h3, false_and, and_false, decide_false] at hr
        subst hr
        go_enter Try.func27, Try.ntmps27
        go_wp2_with (go_at_call 37; refine HSZ.out.mono ?_; rintro e w1 ⟨rfl, rfl⟩)
        go_ret
        exact ⟨rfl, rfl⟩
    · have hr := HA.out
      clear HA
      simp only [h1, h2, false_and, and_false, decide_false] at hr
      subst hr
      go_enter Try.func27, Try.ntmps27
      go_wp2
      go_ret
      exact ⟨rfl, rfl⟩
  · have hr := HA.out
    clear HA
    simp only [h1, false_and, decide_false] at hr
    subst hr
    go_enter Try.func27, Try.ntmps27
    go_wp2
    go_ret
    exact ⟨rfl, rfl⟩
set_option maxHeartbeats 2000000 in
theorem jnew_no (frm cnt E : Int) (hs0 : 0 ≤ s.size) (hs1 : s.size ≤ 65536) (hc : -9223372036854775808 ≤ cnt ∧ cnt ≤ 9223372036854775807) (hf : -9223372036854775808 ≤ frm ∧ frm ≤ 9223372036854775807) (ha : areaB s.size frm cnt = false) :
    Calls Try.prog 13 #[.pointer (some ⟨g, 0, none⟩), .int .i64 frm, .int .i64 cnt, .int .u64 E] w fun e w' => e = .returned (.tuple #[.pointer none, .int .i64 1]) ∧ w = w' := by
  have HA := Lib.hid (area_any h hi frm cnt hs0 hs1 hc hf)
  rw [ha] at HA
  go_enter Try.func13, Try.ntmps13
  go_wp2_with (go_at_call 27; refine HA.out.mono ?_; rintro e w1 ⟨rfl, rfl⟩)
  exact bodyPost_ret (v := .tuple #[.pointer none, .int .i64 1]) (by simp [results, Try.results13, go_sem]) rfl ⟨rfl, rfl⟩
set_option maxHeartbeats 2000000 in
theorem jnew_any (frm cnt : Nat) (E : Int) (hs0 : 0 ≤ s.size) (hs1 : s.size ≤ 65536) (ha : (frm : Int) + cnt ≤ s.size) :
    Calls Try.prog 13 #[.pointer (some ⟨g, 0, none⟩), .int .i64 frm, .int .i64 cnt, .int .u64 E] w fun e w' => e = .returned (.tuple #[.pointer (some ⟨w.heap.size, 0, none⟩), .int .i64 0]) ∧ w' = w.alloc (.cells (jcells g ⟨frm, cnt, E, 0, 0, false⟩) 72) := by
  have HA := Lib.hid (area_any h hi frm cnt hs0 hs1 (by omega) (by omega))
  rw [show areaB s.size frm cnt = true by unfold areaB; exact decide_eq_true (by omega)] at HA
  go_enter Try.func13, Try.ntmps13
  go_wp2_with (go_at_call 27; refine HA.out.mono ?_; rintro e w1 ⟨rfl, rfl⟩)
  exact bodyPost_ret (v := .tuple #[.pointer (some ⟨w.heap.size, 0, none⟩), .int .i64 0]) (by simp [results, Try.results13, go_sem]) rfl ⟨rfl, rfl⟩
end
end Go.Proofs.Ytcgnfkiimnpdcaa
