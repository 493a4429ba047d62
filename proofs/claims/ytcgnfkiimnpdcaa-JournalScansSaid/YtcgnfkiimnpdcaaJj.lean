/-
  JournalLimits: its walk; awake.
-/
import Derived.Test.YtcgnfkiimnpdcaaJi
import Derived.Test.YtcgnfkiimnpdcaaJe
import Derived.Lib.SlBytesConst
import Derived.Deep.OwnRows
set_option linter.unusedVariables false
namespace Go.Proofs.Ytcgnfkiimnpdcaa
open Go.RowKit

/-- A disk of z sectors, awake, without a fuse. -/
structure HJ (z : Int) (s : DS) : Prop where
  size : s.size = z
  down : s.down = false
  fuse : s.fuse = -1
theorem HJ.new (z : Int) (h0 : 0 ≤ z) (h1 : z ≤ 65536) : HJ z (newDS z) := ⟨by show min (max z 0) 65536 = z; omega, rfl, rfl⟩
theorem HJ.burn {z : Int} {s : DS} (h : HJ z s) : burnS s = s := by
  unfold burnS
  rw [h.fuse, if_neg (by decide), if_neg (by decide)]
theorem HJ.write {z : Int} {s : DS} (h : HJ z s) {n : Int} {l : List Int} (h0 : 0 ≤ n) (h1 : n < z) (hl : l.length = 256) : writeE s n l = (0, wroteS s n l) ∧ HJ z (wroteS s n l) := by
  refine ⟨?_, h.size, h.down, h.fuse⟩
  unfold writeE
  rw [h.down, if_neg (by decide), h.size, if_neg (by omega), h.fuse, if_neg (by decide), h.burn]
theorem HJ.put {z : Int} (b : List Int) : ∀ (k p : Nat) (s : DS) (j : JS), HJ z s → (j.frm : Int) + j.nxt + k ≤ z → ∃ s', putE b k p s j = (true, s', { j with nxt := j.nxt + k }) ∧ HJ z s'
  | 0, p, s, j, h, _ => ⟨s, by simp [putE], h⟩
  | k + 1, p, s, j, h, hz => by
    obtain ⟨e1, h1⟩ := h.write (n := j.frm + j.nxt) (l := jsec j.E j.nxt j.rcs p b) (by omega) (by omega) (jsec_len _ _ _ _ _)
    obtain ⟨s', e2, h2⟩ := HJ.put b k (p + 1) (wroteS s (j.frm + j.nxt) (jsec j.E j.nxt j.rcs p b)) { j with nxt := j.nxt + 1 } h1 (by show (j.frm : Int) + ((j.nxt + 1 : Nat) : Int) + k ≤ z; omega)
    refine ⟨s', ?_, h2⟩
    unfold putE
    rw [e1, if_pos rfl, e2]
    simp only [Prod.mk.injEq, true_and]
    rw [show j.nxt + 1 + k = j.nxt + (k + 1) by omega]
theorem HJ.append {z : Int} {s : DS} {j : JS} {b : List Int} (h : HJ z s) (ho : j.over = false) (h0 : 0 < b.length) (h1 : b.length ≤ 8000) (hr : j.nxt + partsN b.length ≤ j.cnt) (hz : (j.frm : Int) + j.cnt ≤ z) : ∃ s', appendE s j b = (0, s', { j with nxt := j.nxt + partsN b.length, rcs := j.rcs + 1 }) ∧ HJ z s' := by
  obtain ⟨s', e, h'⟩ := h.put b (partsN b.length) 0 s j (by omega)
  refine ⟨s', ?_, h'⟩
  unfold appendE
  rw [if_neg (by rw [ho]; decide), if_neg (by omega), if_neg (by omega), if_neg (by omega), e]
  rfl

set_option maxHeartbeats 4000000 in
theorem awake_any (w : World) :
    Calls Try.prog 7 #[] w fun e w' => e = .returned (.bool true) ∧ Below w.heap.size w w' := by
  have kc := fun (w : World) (C : Array Value) (n c : Nat) => Lib.run_convert_bytes_const (P := Try.prog) w 27 5 C n c Try.underlying27 Try.underlying5
  go_enter Try.func7, Try.ntmps7
  go_wp2_with fail
  refine (many_new (Many.nil w.heap.size w) (Nat.le_refl _) 4).mono ?_
  rintro e w1 ⟨g, rfl, m1, hb1⟩
  have hs0 := HJ.new 4 (by decide) (by decide)
  obtain ⟨s0, hs⟩ : ∃ s0, s0 = newDS 4 := ⟨_, rfl⟩
  have m1' : Many w.heap.size w1 [(g, s0)] := by rw [hs]; exact m1
  rw [← hs] at hs0
  have hpn : s0.pend.length ≤ 900000000 := by rw [hs]; exact Nat.zero_le _
  clear hs m1
  have HN := Lib.hid (jnew_any m1' (i := 0) rfl 1 3 7 (by rw [hs0.size]; decide) (by rw [hs0.size]; decide) (by rw [hs0.size]; decide))
  go_wp2_with fail
  refine HN.out.mono ?_
  clear HN
  rintro e w2 ⟨rfl, rfl⟩
  obtain ⟨w2, hw2⟩ : ∃ w2, w2 = w1.alloc (.cells (jcells g ⟨1, 3, 7, 0, 0, false⟩) 72) := ⟨_, rfl⟩
  have hj2 : JAt w2 w1.heap.size g ⟨1, 3, 7, 0, 0, false⟩ := by rw [hw2]; exact Blk.new _ _ _
  have hb2 : Below w1.heap.size w1 w2 := by rw [hw2]; exact (Below.refl _ _).alloc (Nat.le_refl _) _
  rw [← hw2]
  clear hw2
  have hb3 : Below w2.heap.size w2 (w2.alloc (.cells #[.int .u8 97] 5 (1, 2))) := (Below.refl _ _).alloc (Nat.le_refl _) _
  have hby : Bytes (w2.alloc (.cells #[.int .u8 97] 5 (1, 2))) (some ⟨w2.heap.size, 0, none⟩) [97] := ⟨(cells_mark w2 [97] (1, 2)).whole, fun ad e => by injection e with e; subst e; exact ⟨_, _, heap_alloc_new w2 _⟩⟩
  have hB2 := hb1.trans (hb2.mono hb1.size)
  have hB3 := hB2.trans (hb3.mono hB2.size)
  obtain ⟨s1, e1, hs1⟩ := hs0.append (j := ⟨1, 3, 7, 0, 0, false⟩) (b := [97]) rfl (by decide) (by decide) (by decide) (by decide)
  have hC := jappend_any ((m1'.below hb2).below hb3) hB3.size (i := 0) rfl (hj2.below hb3 hj2.lt) hb1.size (some ⟨w2.heap.size, 0, none⟩) [97] 1 (KeptJ.of_bytes hby) (Oct.cons (by decide) (by decide) Oct.nil) (by decide) (by decide) (by decide) (by decide) (by decide) (by decide) (by decide) (by decide) (by rw [hs0.fuse]; decide) hpn
  unfold JDone at hC
  rw [e1] at hC
  have HC := Lib.hid hC
  clear hC e1 hby m1'
  have hP := parts_any 235 w (by decide)
  go_wp2_with fail
  refine HC.out.mono ?_
  clear HC
  rintro e w4 ⟨rfl, _, hj4, hb4, _⟩
  have HR := Lib.hid (room_any w1.heap.size g _ w4 hj4 (by decide) (by decide))
  have hB4 := hB3.trans hb4
  go_wp2_with fail
  refine HR.out.mono ?_
  clear HR
  rintro e w5 ⟨rfl, hb5⟩
  have hB5 := hB4.trans (hb5.mono hB4.size)
  go_wp2_with (go_at_call 22; refine (parts_any 235 _ (by decide)).mono ?_; rintro e w6 ⟨rfl, rfl⟩)
  go_ret
  exact ⟨rfl, hB5⟩
end Go.Proofs.Ytcgnfkiimnpdcaa
