/-
  A disk without a fuse: what Save and Open make of it. awake.
-/
import Derived.Test.YtobdbkhjdhnooaaMc
import Derived.Lib.SlBytesConst
set_option linter.unusedVariables false
namespace Go.Proofs.Ytobdbkhjdhnooaa
open Go.RowKit

/-- A disk of z sectors that is not down and has no fuse. -/
structure HS (z : Int) (s : DS) : Prop where
  size : s.size = z
  down : s.down = false
  fuse : s.fuse = -1
theorem HS.new (z : Int) (h0 : 0 ≤ z) (h1 : z ≤ 65536) : HS z (newDS z) := ⟨by show min (max z 0) 65536 = z; omega, rfl, rfl⟩
theorem HS.burn {z : Int} {s : DS} (h : HS z s) : burnS s = s := by
  unfold burnS
  rw [h.fuse, if_neg (by decide), if_neg (by decide)]
theorem HS.sync {z : Int} {s : DS} (h : HS z s) : syncE s = (0, syncedS s) ∧ HS z (syncedS s) := by
  refine ⟨?_, h.size, h.down, h.fuse⟩
  unfold syncE
  rw [h.down, h.fuse, h.burn]
  rfl
theorem HS.write {z : Int} {s : DS} (h : HS z s) {n : Int} {l : List Int} (h0 : 0 ≤ n) (h1 : n < z) (hl : l.length = 256) : writeE s n l = (0, wroteS s n l) ∧ HS z (wroteS s n l) := by
  refine ⟨?_, h.size, h.down, h.fuse⟩
  unfold writeE
  rw [h.down, if_neg (by decide), h.size, if_neg (by omega), h.fuse, if_neg (by decide), h.burn]
/-- The disk behind a Save that went well. -/
def savedS (s : DS) (G : Int) (p : List Int) : DS := syncedS (wroteS (syncedS s) (G % 2) (secH G p))
theorem HS.save {z : Int} {s : DS} (h : HS z s) (hz : 2 ≤ z) {G : Int} {p : List Int} (hG : G ≠ 0) (hp : p.length ≤ 200) : saveE s G p = (0, savedS s G p) ∧ HS z (savedS s G p) := by
  obtain ⟨a1, a2⟩ := h.sync
  obtain ⟨b1, b2⟩ := a2.write (n := G % 2) (l := secH G p) (by omega) (by omega) (secH_len G p (by omega))
  obtain ⟨c1, c2⟩ := b2.sync
  refine ⟨?_, c2⟩
  unfold saveE
  rw [h.size, if_neg (by omega), if_neg (by omega), a1]
  simp only
  rw [if_neg (by decide), b1]
  simp only
  rw [if_neg (by decide), c1]
  simp only
  rw [if_neg (by decide)]
  rfl
theorem rd_saved (s : DS) (G : Int) (p : List Int) (j : Int) : rd (savedS s G p) j = if j = G % 2 then secH G p else rd s j := by
  unfold rd savedS
  show ((updC s.now (G % 2) (secH G p)) j).getD zeroSec = _
  unfold updC
  split <;> rfl
theorem pend_saved (s : DS) (G : Int) (p : List Int) : (savedS s G p).pend = [] := rfl
theorem HS.open_ {z : Int} {s : DS} (h : HS z s) (hz : 2 ≤ z) : openE s = 0 ∧ openH s = maxH (headOf (rd s 0)) (headOf (rd s 1)) ∧ HS z (openS s) ∧ (∀ j, rd (openS s) j = rd s j) ∧ (openS s).pend = s.pend := by
  have r : ∀ (s' : DS) n, HS z s' → 0 ≤ n → n < 2 → readE s' n = (0, { s' with a0 := wrap64 (s'.a0 + 1) }) := fun s' n h' h3 h4 => by unfold readE; rw [h'.down, h'.size, if_neg (by decide), if_neg (by omega)]
  have h1 : HS z { s with a0 := wrap64 (s.a0 + 1) } := ⟨h.size, h.down, h.fuse⟩
  have r0 := r s 0 h (by decide) (by decide)
  have r1 := r _ 1 h1 (by decide) (by decide)
  have hs : ¬ s.size < 2 := by rw [h.size]; omega
  unfold openE openH openS open2
  rw [if_neg hs, if_neg hs, if_neg hs, r0]
  simp only [r1]
  exact ⟨if_neg (by decide), if_neg (by decide), ⟨h.size, h.down, h.fuse⟩, fun j => rfl, trivial⟩
theorem rd_new (z j : Int) : rd (newDS z) j = zeroSec := rfl
theorem maxH_self (x : Int × List Int) : maxH x x = x := if_neg (by omega)

theorem str_a : strOfNums [97] = ⟨#[97]⟩ := by rfl
set_option maxHeartbeats 4000000 in
theorem awake_any (w : World) :
    Calls Try.prog 8 #[] w fun e w' => e = .returned (.bool true) ∧ Below w.heap.size w w' := by
  have kc := fun (w : World) (C : Array Value) (n c : Nat) => Lib.run_convert_bytes_const (P := Try.prog) w 28 5 C n c Try.underlying28 Try.underlying5
  go_enter Try.func8, Try.ntmps8
  go_wp2_with fail
  refine (many_new (Many.nil w.heap.size w) (Nat.le_refl _) 2).mono ?_
  rintro e w1 ⟨g, rfl, m1, hb1⟩
  have hs0 := HS.new 2 (by decide) (by decide)
  obtain ⟨hs1, hs1'⟩ := hs0.save (by decide) (G := 1) (p := [97]) (by decide) (by decide)
  have hby : Bytes (w1.alloc (.cells #[.int .u8 97] 5 (1, 2))) (some ⟨w1.heap.size, 0, none⟩) [97] := ⟨(cells_mark w1 [97] (1, 2)).whole, fun ad e => by injection e with e; subst e; exact ⟨_, _, heap_alloc_new w1 _⟩⟩
  have hb2 : Below w1.heap.size w1 (w1.alloc (.cells #[.int .u8 97] 5 (1, 2))) := (Below.refl _ _).alloc (Nat.le_refl _) _
  have hc := many_save (i := 0) (m1.below hb2) (Nat.le_trans hb1.size hb2.size) rfl 1 (some ⟨w1.heap.size, 0, none⟩) [97] 1 (by decide) (by decide) (Kept.of_bytes hby) (Oct.cons (by decide) (by decide) Oct.nil) (by decide) (by decide) (by decide)
  rw [hs1, show ([97] : List Int).length = 1 from rfl] at hc
  have HC := Lib.hid hc
  have hB2 := hb1.trans (hb2.mono hb1.size)
  clear hc hs1
  go_wp2_with fail
  refine HC.out.mono ?_
  clear HC hby hb2
  rintro e w2 ⟨rfl, m2, hb3, _⟩
  have hB3 := hB2.trans hb3
  obtain ⟨o1, o2, o3, _⟩ := hs1'.open_ (by decide)
  have hc := many_open (i := 0) m2 hB3.size rfl
  unfold OpenP at hc
  have hh : openH (savedS (newDS 2) 1 [97]) = (1, [97]) := by
    rw [o2, rd_saved, rd_saved, if_neg (by decide), if_pos (by decide), rd_new, headOf_zero, headOf_sec 1 [97] (by decide) (by decide) (by decide)]
    rfl
  rw [o1, hh] at hc
  have HC := Lib.hid hc
  clear hc o1 o2 o3 hh hs1'
  go_wp2_with fail
  refine HC.out.mono ?_
  clear HC
  rintro e w3 ⟨A, c, rfl, hby3, m3, hb4, _⟩
  have hcv : ∀ o : Obj, (convert 28 9 (.slice A 1 c)).run Try.prog (w3.alloc o) = .ok (.string ⟨#[97]⟩) (w3.alloc o) := fun o => by
    have := conv_str A [97] c (w3.alloc o) ((hby3.1.alloc (Nat.le_refl _) o).whole)
    rw [str_a] at this
    exact this
  go_wp2
  go_ret
  exact ⟨rfl, (hB3.trans hb4).alloc (hB3.trans hb4).size _⟩
end Go.Proofs.Ytobdbkhjdhnooaa
