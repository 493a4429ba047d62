/-
  JournalCuts: its walk.
-/
import Derived.Test.YtcgnfkiimnpdcaaJo
import Derived.Test.YtcgnfkiimnpdcaaJk
set_option linter.unusedVariables false
namespace Go.Proofs.Ytcgnfkiimnpdcaa
open Go.RowKit

theorem OwnR.parts {w : World} {base : Nat} {A : Option Addr} {n c : Nat} {ls : List (List Int)} (h : OwnR w base (.slice A n c) ls) : n = ls.length ∧ ∃ vs, Cells w w.heap.size A vs ∧ RowsV w vs ls := by
  obtain ⟨A', c', vs, e, _, _, hc, hr⟩ := h.shape
  injection e with e1 e2 e3
  subst e1
  exact ⟨e2, vs, hc, hr⟩
theorem bad_zero (E : Int) : Bad E zeroSec := .inr at16_zero
theorem PL.le {z : Int} {frm cnt : Nat} {E : Int} {base : Nat → List Int} {s : DS} {j : JS} {l : List (List Int)} {sy : Nat} (h : PL z frm cnt E base s j l sy) : ∀ b ∈ l, b.length ≤ 8000 := fun b hb => by
  rcases h.st with h1 | ⟨_, x, h1, _⟩
  · exact (h1.1.ok b hb).2
  · exact (h1.ok b (List.mem_append.2 (.inl hb))).2

set_option maxHeartbeats 8000000 in
theorem cuts_walk (A : Option Addr) (ops : List OpM) (c : Nat) (Ak : Option Addr) (keep : List Bool) (ck : Nat) (E : Int) (w : World) (hops : Ops w A ops) (hol : ops.length ≤ 9223372036854775807) (hkp : Cells w w.heap.size Ak (keep.map Value.bool)) (hkl : keep.length ≤ 9223372036854775807) (hE0 : 0 ≤ E) (hE1 : E ≤ 18446744073709551615) :
    Calls Try.prog 5 #[.slice A ops.length c, .slice Ak keep.length ck, .int .u64 E] w fun e w' => e = .returned (.bool true) ∧ Below w.heap.size w w' := by
  go_enter Try.func5, Try.ntmps5
  go_wp2_with fail
  refine (awake_any w).mono ?_
  rintro e w1 ⟨rfl, hb1⟩
  go_wp2_with fail
  refine (few_any A ops c w1 (hops.below hb1) hol).mono ?_
  rintro e w2 ⟨b, rfl, rfl, hfw⟩
  cases b with
  | false =>
    clear hfw
    go_wp2_with fail
    refine (awake_any w1).mono ?_
    rintro e w2 ⟨rfl, hb2⟩
    go_wp2
    go_ret
    exact ⟨rfl, hb1.trans (hb2.mono hb1.size)⟩
  | true =>
    have hf := hfw rfl
    obtain ⟨hf1, hf2⟩ := hf
    clear hfw
    have HF2 := Lib.hid hf2
    clear hf2
    by_cases hk : 1000 < keep.length
    · have hk' : (1000 : Int) < (keep.length : Int) := by omega
      go_wp2_with fail
      refine (awake_any w1).mono ?_
      rintro e w2 ⟨rfl, hb2⟩
      go_wp2
      go_ret
      exact ⟨rfl, hb1.trans (hb2.mono hb1.size)⟩
    · have hk' : ¬ (1000 : Int) < (keep.length : Int) := by omega
      go_wp2_with fail
      refine (many_new (Many.nil w.heap.size w1) hb1.size 90).mono ?_
      rintro e w2 ⟨g, rfl, m2, hb2⟩
      have hB2 := hb1.trans (hb2.mono hb1.size)
      have hs0 := HJ.new 90 (by decide) (by decide)
      have hPL : PL 90 5 80 E (fun _ => zeroSec) (newDS 90) ⟨5, 80, E, 0, 0, false⟩ [] 0 := PL.start hs0.size (by decide) rfl (by rw [hs0.fuse]; decide) fun i _ => rfl
      obtain ⟨s0, hs⟩ : ∃ s0, s0 = newDS 90 := ⟨_, rfl⟩
      have m2' : Many w.heap.size w2 [(g, s0)] := by rw [hs]; exact m2
      rw [← hs] at hs0 hPL
      clear hs m2
      have HN := Lib.hid (jnew_any m2' (i := 0) rfl 5 80 E (by rw [hs0.size]; decide) (by rw [hs0.size]; decide) (by rw [hs0.size]; decide))
      go_wp2_with fail
      refine HN.out.mono ?_
      clear HN
      rintro e w3 ⟨rfl, rfl⟩
      obtain ⟨w3, hw3⟩ : ∃ w3, w3 = w2.alloc (.cells (jcells g ⟨5, 80, E, 0, 0, false⟩) 72) := ⟨_, rfl⟩
      have hj3 : JAt w3 w2.heap.size g ⟨5, 80, E, 0, 0, false⟩ := by rw [hw3]; exact Blk.new _ _ _
      have hb3 : Below w2.heap.size w2 w3 := by rw [hw3]; exact (Below.refl _ _).alloc (Nat.le_refl _) _
      rw [← hw3]
      clear hw3
      have m3 := m2'.below hb3
      have hB3 := hB2.trans (hb3.mono hB2.size)
      have HP := Lib.hid (play_any m3 hB3 (i := 0) rfl hj3 hB2.size hPL (by decide) hE0 hE1 A ops c hops hf1 HF2.out)
      clear m2' hj3 hb3 hPL hs0
      go_wp2_with fail
      refine HP.out.mono ?_
      clear HP
      rintro e w4 ⟨s4, j4, l, sy, Al, cl, rfl, m4, hj4, ho4, hPL4, hl30, hb4⟩
      have hB4 := hB3.trans hb4
      obtain ⟨l', hPC⟩ := hPL4.pc
      have hsz : s4.size = 90 := hPC.size
      have hpn : s4.pend.length ≤ 1000 := by have := hPC.pl; have := hPC.nx; have := hPC.tot; omega
      obtain ⟨kk, hkk, hsy, hscan⟩ := hPL4.cut (fun i _ => bad_zero E) keep
      have hle := hPL4.le
      clear hPC
      have m4' : Many w.heap.size w4 [(g, s4)] := m4
      have HC := Lib.hid (many_cut m4' hB4.size (i := 0) rfl Ak keep ck (by rw [hsz]; decide) (by rw [hsz]; decide) (by omega) ((hkp.below hB4).whole) hkl)
      go_wp2_with fail
      refine HC.out.mono ?_
      clear HC
      rintro e w5 ⟨g5, rfl, m5, hb5⟩
      have m5' : Many w.heap.size w5 [(g, s4), (g5, cutS s4 keep)] := m5
      have hB5 := hB4.trans (hb5.mono hB4.size)
      have ho5 := ho4.below hb5
      have hz5 : (cutS s4 keep).size = 90 := hsz
      have hC := scan_any m5' hB5.size (i := 1) rfl 5 80 E rfl (by rw [hz5]; decide) (by rw [hz5]; decide) (by rw [hz5]; decide) hE0 hE1
      have hbk : ∀ w6 : World, Lo w5 g5 w6 → BKA w5 w6 ∧ Below w.heap.size w5 w6 := fun w6 hlo => ⟨Lo.bka m5' (i := 1) rfl hlo, Lo.low m5' hB5.size (i := 1) rfl hlo⟩
      have HBK := Lib.hid hbk
      unfold ScanD at hC
      obtain ⟨got, hgot⟩ : ∃ got, l.take kk = got := ⟨_, rfl⟩
      have hscan' : scanF (fun k : Nat => rd (cutS s4 keep) (((5 : Nat) : Int) + (k : Int))) 80 E (80 + 1) 0 0 = got := hscan.trans hgot
      rw [hscan'] at hC
      have hgl : got.length = kk := by rw [← hgot, List.length_take]; omega
      have hpre : got = l.take got.length := by rw [hgl]; exact hgot.symm
      have hgsy : (sy : Int) ≤ (got.length : Int) := by omega
      have hgle : ∀ x ∈ got, x.length ≤ 100000000 := fun x hx => by
        rw [← hgot] at hx
        have := hle x (List.mem_of_mem_take hx)
        omega
      have HC := Lib.hid hC
      have HPRE := Lib.hid hpre
      have HGLE := Lib.hid hgle
      clear hC hbk hpre hgle hgl hgot hscan hscan' m4 m4' m5 m5' hle hPL4 hz5 hsz
      go_wp2_with fail
      refine HC.out.mono ?_
      clear HC
      rintro e w6 ⟨hlo6, v, rfl, hv⟩
      obtain ⟨hk6, hb6⟩ := HBK.out w6 hlo6
      have ho6 := ho5.bkj hk6.j
      obtain ⟨Ag, cg, vg, eg, _, _, hcg, hrg⟩ := hv.shape
      subst eg
      obtain ⟨_, vl, hcl, hrl⟩ := ho6.parts
      have HFR := Lib.hid (front_true Al Ag l got vl vg cl cg w6 hcl hrl hcg hrg HPRE.out HGLE.out (by omega))
      go_wp2_with (go_at_call 21; refine HFR.out.mono ?_; rintro e w7 ⟨rfl, hb7⟩)
      go_ret
      have hB6 := hB5.trans hb6
      exact ⟨rfl, hB6.trans (hb7.mono hB6.size)⟩
end Go.Proofs.Ytcgnfkiimnpdcaa
