/-
  JournalEpochs: its walk.
-/
import Derived.Test.YtcgnfkiimnpdcaaJr
set_option linter.unusedVariables false
namespace Go.Proofs.Ytcgnfkiimnpdcaa
open Go.RowKit

theorem lay_epoch (E : Int) : ∀ (l : List (List Int)) {at_ num i : Nat} {x : List Int}, (lay E at_ num l)[i]? = some x → x.take 8 = be64 E
  | [], at_, num, i, x, h => by simp [lay] at h
  | b :: t, at_, num, i, x, h => by
    rcases Nat.lt_or_ge i (partsN b.length) with hlt | hge
    · rw [lay_at E at_ num b t i hlt] at h
      injection h with h
      rw [← h]
      exact jsec_take8 _ _ _ _ _
    · rw [lay_past E at_ num b t i hge] at h
      exact lay_epoch E t h
/-- What another epoch has left is bad. -/
theorem PL.other {z : Int} {frm cnt : Nat} {E E' : Int} {base : Nat → List Int} {s : DS} {j : JS} {l : List (List Int)} {sy : Nat} (h : PL z frm cnt E base s j l sy) (hbad : ∀ i, i < cnt → Bad E' (base i)) (hE : be64 E ≠ be64 E') (keep : List Bool) (i : Nat) (hi : i < cnt) : Bad E' (rd (cutS s keep) ((frm : Int) + (i : Int))) := by
  obtain ⟨l', h⟩ := h.pc
  have hl : ∀ x, (lay E 0 0 l')[i]? = some x → Bad E' x := fun x hx => .inl (by rw [lay_epoch E l' hx]; exact hE)
  have ev : rd (cutS s keep) ((frm : Int) + (i : Int)) = (applyW s.lasts (keptW s.pend keep s.pend.length) ((frm : Int) + (i : Int))).getD zeroSec := rfl
  rw [ev]
  rcases applyW_val s.lasts (keptW s.pend keep s.pend.length) ((frm : Int) + (i : Int)) with ⟨x, h1, h2⟩ | ⟨h1, h2⟩
  · obtain ⟨i', e, h3, h4⟩ := h.pe _ _ (kept_mem h1)
    obtain rfl : i = i' := by omega
    rw [h2]
    exact hl x h4
  · rw [h2]
    rcases h.la i hi with h3 | ⟨_, h3⟩
    · show Bad E' (last frm s i)
      rw [h3]
      exact hbad i hi
    · exact hl _ h3
theorem scan_bad (R : Nat → List Int) (cnt : Nat) (E : Int) (hR : ∀ i, i < cnt → Bad E (R i)) : scanF R cnt E (cnt + 1) 0 0 = [] := by
  obtain ⟨k, hk, hs, _⟩ := scan_front R cnt E 0 0 [] (cnt + 1) 0 0 (by simp [total]) (fun b hb => by cases hb) (Nat.zero_le _) (Nat.zero_le _) (fun i _ hi => .inr (hR i hi)) (fun i _ hi => absurd hi (by omega))
  rw [hs]
  simp

set_option maxHeartbeats 16000000 in
theorem epochs_walk (A : Option Addr) (ops : List OpM) (c : Nat) (A2 : Option Addr) (ops2 : List OpM) (c2 : Nat) (Ak : Option Addr) (keep : List Bool) (ck : Nat) (w : World) (hops : Ops w A ops) (hol : ops.length ≤ 9223372036854775807) (hops2 : Ops w A2 ops2) (hol2 : ops2.length ≤ 9223372036854775807) (hkp : Cells w w.heap.size Ak (keep.map Value.bool)) (hkl : keep.length ≤ 9223372036854775807) :
    Calls Try.prog 6 #[.slice A ops.length c, .slice A2 ops2.length c2, .slice Ak keep.length ck] w fun e w' => e = .returned (.bool true) ∧ Below w.heap.size w w' := by
  go_enter Try.func6, Try.ntmps6
  go_wp2_with fail
  refine (awake_any w).mono ?_
  rintro e w1 ⟨rfl, hb1⟩
  go_wp2_with fail
  refine (few_any A ops c w1 (hops.below hb1) hol).mono ?_
  rintro e w2 ⟨b, rfl, rfl, hfw⟩
  cases b with
  | false =>
    clear hfw
    go_wp2_with fail
    refine (awake_any w1).mono ?_
    rintro e w2 ⟨rfl, hb2⟩
    go_wp2
    go_ret
    exact ⟨rfl, hb1.trans (hb2.mono hb1.size)⟩
  | true =>
  obtain ⟨hf1, hf2⟩ := hfw rfl
  clear hfw
  have HF2 := Lib.hid hf2
  clear hf2
  go_wp2_with fail
  refine (few_any A2 ops2 c2 w1 (hops2.below hb1) hol2).mono ?_
  rintro e w2 ⟨b, rfl, rfl, hfw⟩
  cases b with
  | false =>
    clear hfw
    go_wp2_with fail
    refine (awake_any w1).mono ?_
    rintro e w2 ⟨rfl, hb2⟩
    go_wp2
    go_ret
    exact ⟨rfl, hb1.trans (hb2.mono hb1.size)⟩
  | true =>
  obtain ⟨hf3, hf4⟩ := hfw rfl
  clear hfw
  have HF4 := Lib.hid hf4
  clear hf4
  by_cases hk : 1000 < keep.length
  · have hk' : (1000 : Int) < (keep.length : Int) := by omega
    go_wp2_with fail
    refine (awake_any w1).mono ?_
    rintro e w2 ⟨rfl, hb2⟩
    go_wp2
    go_ret
    exact ⟨rfl, hb1.trans (hb2.mono hb1.size)⟩
  · have hk' : ¬ (1000 : Int) < (keep.length : Int) := by omega
    go_wp2_with fail
    refine (many_new (Many.nil w.heap.size w1) hb1.size 60).mono ?_
    rintro e w2 ⟨g, rfl, m2, hb2⟩
    have hB2 := hb1.trans (hb2.mono hb1.size)
    have hs0 := HJ.new 60 (by decide) (by decide)
    have hPL : PL 60 0 60 7 (fun _ => zeroSec) (newDS 60) ⟨0, 60, 7, 0, 0, false⟩ [] 0 := PL.start hs0.size (by decide) rfl (by rw [hs0.fuse]; decide) fun i _ => rfl
    obtain ⟨s0, hs⟩ : ∃ s0, s0 = newDS 60 := ⟨_, rfl⟩
    have m2' : Many w.heap.size w2 [(g, s0)] := by rw [hs]; exact m2
    rw [← hs] at hs0 hPL
    clear hs m2
    have HN := Lib.hid (jnew_any m2' (i := 0) rfl 0 60 7 (by rw [hs0.size]; decide) (by rw [hs0.size]; decide) (by rw [hs0.size]; decide))
    go_wp2_with fail
    refine HN.out.mono ?_
    clear HN
    rintro e w3 ⟨rfl, rfl⟩
    obtain ⟨w3, hw3⟩ : ∃ w3, w3 = w2.alloc (.cells (jcells g ⟨0, 60, 7, 0, 0, false⟩) 72) := ⟨_, rfl⟩
    have hj3 : JAt w3 w2.heap.size g ⟨0, 60, 7, 0, 0, false⟩ := by rw [hw3]; exact Blk.new _ _ _
    have hb3 : Below w2.heap.size w2 w3 := by rw [hw3]; exact (Below.refl _ _).alloc (Nat.le_refl _) _
    rw [← hw3]
    clear hw3
    have m3 := m2'.below hb3
    have hB3 := hB2.trans (hb3.mono hB2.size)
    have HP := Lib.hid (play_any m3 hB3 (i := 0) rfl hj3 hB2.size hPL (by decide) (by decide) (by decide) A ops c hops hf1 HF2.out)
    clear m2' hj3 hb3 hPL hs0
    go_wp2_with fail
    refine HP.out.mono ?_
    clear HP
    rintro e w4 ⟨s4, j4, l, sy, Al, cl, rfl, m4, _, _, hPL4, _, hb4⟩
    have hB4 := hB3.trans hb4
    obtain ⟨l', hPC⟩ := hPL4.pc
    have hsz : s4.size = 60 := hPC.size
    have hpn : s4.pend.length ≤ 1000 := by have := hPC.pl; have := hPC.nx; have := hPC.tot; omega
    have hoth : ∀ i : Nat, i < 60 → Bad 8 (rd (cutS s4 keep) (((0 : Nat) : Int) + (i : Int))) := fun i hi => hPL4.other (fun i _ => bad_zero 8) (by decide) keep i hi
    clear hPC hPL4
    have m4' : Many w.heap.size w4 [(g, s4)] := m4
    have HC := Lib.hid (many_cut m4' hB4.size (i := 0) rfl Ak keep ck (by rw [hsz]; decide) (by rw [hsz]; decide) (by omega) ((hkp.below hB4).whole) hkl)
    obtain ⟨x5, hx5⟩ : ∃ x5, x5 = cutS s4 keep := ⟨_, rfl⟩
    rw [← hx5] at HC hoth
    have hz5 : x5.size = 60 := by rw [hx5]; exact hsz
    have hd5 : x5.down = false := by rw [hx5]; rfl
    have hf5 : x5.fuse = -1 := by rw [hx5]; rfl
    have hp5 : x5.pend = [] := by rw [hx5]; rfl
    have hl5 : x5.lasts = x5.now := by rw [hx5]; rfl
    clear hx5 m4 m4' hsz hpn
    go_wp2_with fail
    refine HC.out.mono ?_
    clear HC
    rintro e w5 ⟨g5, rfl, m5, hb5⟩
    have m5' : Many w.heap.size w5 [(g, s4), (g5, x5)] := m5
    have hB5 := hB4.trans (hb5.mono hB4.size)
    have hC := scan_any m5' hB5.size (i := 1) rfl 0 60 8 hd5 (by rw [hz5]; decide) (by rw [hz5]; decide) (by rw [hz5]; decide) (by decide) (by decide)
    unfold ScanD at hC
    rw [scan_bad _ 60 8 hoth] at hC
    have HLO : Hid (∀ w6 : World, Lo w5 g5 w6 → (∃ x, Many w.heap.size w6 [(g, s4), (g5, { x5 with a0 := x })]) ∧ Below w.heap.size w5 w6) := Lib.hid fun w6 hlo => ⟨Lo.many m5' hB5.size (i := 1) rfl hlo, Lo.low m5' hB5.size (i := 1) rfl hlo⟩
    have HC := Lib.hid hC
    clear hC m5 m5'
    go_wp2_with fail
    refine HC.out.mono ?_
    clear HC
    rintro e w6 ⟨hlo6, v6, rfl, hv6⟩
    obtain ⟨An, cn, rfl⟩ := hv6.none
    obtain ⟨⟨x, m6⟩, hb6⟩ := HLO.out w6 hlo6
    have hB6 := hB5.trans hb6
    have hPL : PL 60 0 60 8 (fun i => last 0 x5 i) { x5 with a0 := x } ⟨0, 60, 8, 0, 0, false⟩ [] 0 := PL.start hz5 (by decide) hp5 (by show x5.fuse ≤ _; rw [hf5]; decide) fun i _ => rfl
    have hbad : ∀ i : Nat, i < 60 → Bad 8 (last 0 x5 i) := fun i hi => by
      have := hoth i hi
      unfold last
      rw [hl5]
      exact this
    obtain ⟨x6, hx6⟩ : ∃ x6, x6 = { x5 with a0 := x } := ⟨_, rfl⟩
    rw [← hx6] at m6 hPL
    have hz6 : x6.size = 60 := by rw [hx6]; exact hz5
    clear hx6 hoth hz5 hd5 hf5 hp5 hl5 HLO hv6
    have HN := Lib.hid (jnew_any m6 (i := 1) rfl 0 60 8 (by rw [hz6]; decide) (by rw [hz6]; decide) (by rw [hz6]; decide))
    go_wp2_with fail
    refine HN.out.mono ?_
    clear HN
    rintro e w7 ⟨rfl, rfl⟩
    obtain ⟨w7, hw7⟩ : ∃ w7, w7 = w6.alloc (.cells (jcells g5 ⟨0, 60, 8, 0, 0, false⟩) 72) := ⟨_, rfl⟩
    have hj7 : JAt w7 w6.heap.size g5 ⟨0, 60, 8, 0, 0, false⟩ := by rw [hw7]; exact Blk.new _ _ _
    have hb7 : Below w6.heap.size w6 w7 := by rw [hw7]; exact (Below.refl _ _).alloc (Nat.le_refl _) _
    rw [← hw7]
    clear hw7
    have m7 := m6.below hb7
    have hB7 := hB6.trans (hb7.mono hB6.size)
    have HP := Lib.hid (play_any m7 hB7 (i := 1) rfl hj7 hB6.size hPL (by decide) (by decide) (by decide) A2 ops2 c2 hops2 hf3 HF4.out)
    clear m6 hj7 hb7 hPL hz6
    go_wp2_with fail
    refine HP.out.mono ?_
    clear HP
    rintro e w8 ⟨s8, j8, l2, sy2, Al2, cl2, rfl, m8, _, ho8, hPL8, hl30, hb8⟩
    have hB8 := hB7.trans hb8
    obtain ⟨l2', hPC⟩ := hPL8.pc
    have hsz : s8.size = 60 := hPC.size
    have hpn : s8.pend.length ≤ 1000 := by have := hPC.pl; have := hPC.nx; have := hPC.tot; omega
    obtain ⟨kk, hkk, hsy, hscan⟩ := hPL8.cut hbad keep
    have hle := hPL8.le
    clear hPC
    have m8' : Many w.heap.size w8 [(g, s4), (g5, s8)] := m8
    have HC := Lib.hid (many_cut m8' hB8.size (i := 1) rfl Ak keep ck (by rw [hsz]; decide) (by rw [hsz]; decide) (by omega) ((hkp.below hB8).whole) hkl)
    go_wp2_with fail
    refine HC.out.mono ?_
    clear HC
    rintro e w9 ⟨g9, rfl, m9, hb9⟩
    have m9' : Many w.heap.size w9 [(g, s4), (g5, s8), (g9, cutS s8 keep)] := m9
    have hB9 := hB8.trans (hb9.mono hB8.size)
    have ho9 := ho8.below hb9
    have hz9 : (cutS s8 keep).size = 60 := hsz
    have hC := scan_any m9' hB9.size (i := 2) rfl 0 60 8 rfl (by rw [hz9]; decide) (by rw [hz9]; decide) (by rw [hz9]; decide) (by decide) (by decide)
    have HBK : Hid (∀ w6 : World, Lo w9 g9 w6 → BKA w9 w6 ∧ Below w.heap.size w9 w6) := Lib.hid fun w6 hlo => ⟨Lo.bka m9' (i := 2) rfl hlo, Lo.low m9' hB9.size (i := 2) rfl hlo⟩
    unfold ScanD at hC
    obtain ⟨got, hgot⟩ : ∃ got, l2.take kk = got := ⟨_, rfl⟩
    have hscan' : scanF (fun k : Nat => rd (cutS s8 keep) (((0 : Nat) : Int) + (k : Int))) 60 8 (60 + 1) 0 0 = got := hscan.trans hgot
    rw [hscan'] at hC
    have hgl : got.length = kk := by rw [← hgot, List.length_take]; omega
    have hpre : got = l2.take got.length := by rw [hgl]; exact hgot.symm
    have hgsy : (sy2 : Int) ≤ (got.length : Int) := by omega
    have hgle : ∀ x ∈ got, x.length ≤ 100000000 := fun x hx => by
      rw [← hgot] at hx
      have := hle x (List.mem_of_mem_take hx)
      omega
    have HC := Lib.hid hC
    have HPRE := Lib.hid hpre
    have HGLE := Lib.hid hgle
    clear hC hpre hgle hgl hgot hscan hscan' m8 m8' m9 m9' hle hPL8 hz9 hsz hbad
    go_wp2_with fail
    refine HC.out.mono ?_
    clear HC
    rintro e wA ⟨hloA, v, rfl, hv⟩
    obtain ⟨hkA, hbA⟩ := HBK.out wA hloA
    have hoA := ho9.bkj hkA.j
    obtain ⟨Ag, cg, vg, eg, _, _, hcg, hrg⟩ := hv.shape
    subst eg
    obtain ⟨_, vl, hcl, hrl⟩ := hoA.parts
    have HFR := Lib.hid (front_true Al2 Ag l2 got vl vg cl2 cg wA hcl hrl hcg hrg HPRE.out HGLE.out (by omega))
    go_wp2_with (go_at_call 21; refine HFR.out.mono ?_; rintro e wB ⟨rfl, hbB⟩)
    go_ret
    have hBA := hB9.trans hbA
    exact ⟨rfl, hBA.trans (hbB.mono hBA.size)⟩
end Go.Proofs.Ytcgnfkiimnpdcaa
