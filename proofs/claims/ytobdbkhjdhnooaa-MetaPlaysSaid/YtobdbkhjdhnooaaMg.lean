/-
  MetaLimits, MetaElder.
-/
import Derived.Test.YtobdbkhjdhnooaaMd
import Derived.Deep.OwnRows
set_option linter.unusedVariables false
namespace Go.Proofs.Ytobdbkhjdhnooaa
open Go.RowKit

theorem make_zer (k : Nat) (hk : k ≤ 100000000) : ∃ l : List Int, l.length = k ∧ l = zer k ∧ ∀ w, (Instr.makeSlice 28 (.int .i64 k) (.int .i64 k)).run Try.prog w = .ok (.slice (some ⟨w.heap.size, 0, none⟩) k k) (w.alloc (.cells (U8 l).toArray 5)) := by
  refine ⟨zer k, zer_len k, rfl, fun w => ?_⟩
  have hmc : madeCells #[.int .u8 0] k = (U8 (zer k)).toArray := by
    apply Array.ext'
    simp [madeCells, U8, zer, List.map_replicate, List.eq_replicate_iff]
    intro a _
    rw [Nat.mod_one]
    rfl
  rw [← hmc]
  exact run_make_row' 28 5 (.int .u8 0) 1 Try.underlying28 info8 rfl .i64 .i64 k (by omega) (by omega) w
theorem newDS_in (q : Int) (h0 : 0 ≤ q) (h1 : q ≤ 65536) : HS q (newDS q) := HS.new q h0 h1
theorem open_saved (s : DS) (G : Int) (p : List Int) (h0 : 0 < G) (h1 : G ≤ 18446744073709551615) (hp : p.length ≤ 200) (hz : ∀ j, rd s j = zeroSec) : maxH (headOf (rd (savedS s G p) 0)) (headOf (rd (savedS s G p) 1)) = (G, p) := by
  rw [rd_saved, rd_saved, hz, hz]
  rcases (by omega : G % 2 = 0 ∨ G % 2 = 1) with e | e
  · rw [e, if_pos rfl, if_neg (by decide), headOf_sec G p h0 h1 hp, headOf_zero]
    exact if_neg (by show ¬ G < 0; omega)
  · rw [e, if_neg (by decide), if_pos rfl, headOf_sec G p h0 h1 hp, headOf_zero]
    exact if_pos (by show (0 : Int) < G; omega)
theorem open_new (q : Int) (h0 : 2 ≤ q) (h1 : q ≤ 65536) : openE (newDS q) = 0 ∧ openH (newDS q) = (0, []) := by
  obtain ⟨o1, o2, _⟩ := (newDS_in q (by omega) h1).open_ h0
  refine ⟨o1, ?_⟩
  rw [o2, rd_new, rd_new, headOf_zero]
  exact if_neg (by decide)
theorem limits_plain (q G : Int) (l : List Int) (h0 : 0 ≤ q) (h1 : q ≤ 3) (g0 : 0 ≤ G) (g1 : G ≤ 18446744073709551615) (hl : l.length ≤ 255) :
    (q < 2 ∧ (saveE (newDS q) G l).1 = 1 ∧ openE (saveE (newDS q) G l).2 = 1) ∨
    (2 ≤ q ∧ G = 0 ∧ (saveE (newDS q) G l).1 = 1 ∧ openE (saveE (newDS q) G l).2 = 0 ∧ (openH (saveE (newDS q) G l).2).1 = 0) ∨
    (2 ≤ q ∧ G ≠ 0 ∧ 200 < l.length ∧ (saveE (newDS q) G l).1 = 3 ∧ (openH (saveE (newDS q) G l).2).1 = 0) ∨
    (2 ≤ q ∧ G ≠ 0 ∧ l.length ≤ 200 ∧ (saveE (newDS q) G l).1 = 0 ∧ openE (saveE (newDS q) G l).2 = 0 ∧ (openH (saveE (newDS q) G l).2).1 = G ∧ (openH (saveE (newDS q) G l).2).2.length = l.length) := by
  have hs := newDS_in q h0 (by omega)
  by_cases hq : q < 2
  · have e : saveE (newDS q) G l = (1, newDS q) := by unfold saveE; rw [hs.size, if_pos (.inl hq)]
    rw [e]
    exact .inl ⟨hq, rfl, by unfold openE; show (if (newDS q).size < 2 then _ else _) = _; rw [hs.size, if_pos hq]⟩
  · have on := open_new q (by omega) (by omega)
    by_cases hG : G = 0
    · have e : saveE (newDS q) G l = (1, newDS q) := by unfold saveE; rw [if_pos (.inr hG)]
      rw [e]
      exact .inr (.inl ⟨by omega, hG, rfl, on.1, by show (openH (newDS q)).1 = 0; rw [on.2]⟩)
    · by_cases hk : 200 < l.length
      · have e : saveE (newDS q) G l = (3, newDS q) := by unfold saveE; rw [hs.size, if_neg (by omega), if_pos hk]
        rw [e]
        exact .inr (.inr (.inl ⟨by omega, hG, hk, rfl, by show (openH (newDS q)).1 = 0; rw [on.2]⟩))
      · obtain ⟨e, hs'⟩ := hs.save (by omega) hG (p := l) (by omega)
        obtain ⟨o1, o2, _⟩ := hs'.open_ (by omega)
        rw [e]
        have ho := open_saved (newDS q) G l (by omega) g1 (by omega) (fun j => rfl)
        refine .inr (.inr (.inr ⟨by omega, hG, by omega, rfl, o1, ?_, ?_⟩))
        · show (openH (savedS (newDS q) G l)).1 = G; rw [o2, ho]
        · show (openH (savedS (newDS q) G l)).2.length = l.length; rw [o2, ho]

set_option maxHeartbeats 4000000 in
theorem limits_walk (n G z : Int) (w : World) (n0 : 0 ≤ n) (n1 : n ≤ 255) (g0 : 0 ≤ G) (g1 : G ≤ 18446744073709551615) (z0 : 0 ≤ z) (z1 : z ≤ 255) :
    Calls Try.prog 3 #[.int .u8 n, .int .u64 G, .int .u8 z] w fun e w' => e = .returned (.bool true) ∧ Below w.heap.size w w' := by
  obtain ⟨k, rfl⟩ := Int.eq_ofNat_of_zero_le n0
  obtain ⟨l, hl, hlz, hmk⟩ := make_zer k (by omega)
  subst hl
  have hol : Oct l := by rw [hlz]; exact zer_oct _
  have hl255 : l.length ≤ 255 := by omega
  have hpl := limits_plain (z % 4) G l (by omega) (by omega) g0 g1 hl255
  have hsz : (newDS (z % 4)).fuse = -1 := rfl
  have HPL := Lib.hid hpl
  clear hpl hlz hsz
  go_enter Try.func3, Try.ntmps3
  go_wp2_with fail
  refine (awake_any w).mono ?_
  rintro e w1 ⟨rfl, hb1⟩
  go_wp2_with fail
  obtain ⟨q, hq⟩ : ∃ q, z % 4 = q := ⟨_, rfl⟩
  rw [hq]
  have hq03 : 0 ≤ q ∧ q ≤ 3 := by omega
  refine (many_new (Many.nil w.heap.size w1) hb1.size q).mono ?_
  rintro e w2 ⟨g, rfl, m2, hb2⟩
  have hB2 := hb1.trans (hb2.mono hb1.size)
  rw [hq] at HPL
  obtain ⟨s0, hs0⟩ : ∃ s0, s0 = newDS q := ⟨_, rfl⟩
  rw [← hs0] at HPL
  have m2' : Many w.heap.size w2 [(g, s0)] := by rw [hs0]; exact m2
  have hfu : s0.fuse ≤ 9223372036854775807 := by rw [hs0]; show (-1 : Int) ≤ _; decide
  have hpn : s0.pend.length ≤ 900000000 := by rw [hs0]; exact Nat.zero_le _
  clear hs0 m2
  have hb3 : Below w2.heap.size w2 (w2.alloc (.cells (U8 l).toArray 5)) := (Below.refl _ _).alloc (Nat.le_refl _) _
  have hby := Own.bytes (own_row w2 w2.heap.size l (Nat.le_refl _) (by unfold maxLen; omega))
  have hc := many_save (i := 0) (m2'.below hb3) (Nat.le_trans hB2.size hb3.size) rfl G _ l l.length g0 g1 (Kept.of_bytes hby) hol (by omega) hfu hpn
  have hB3 := hB2.trans (hb3.mono hB2.size)
  have HC := Lib.hid hc
  clear hc hby hb3
  have HQ := Lib.hid hq
  clear hq
  go_wp2_with fail
  refine HC.out.mono ?_
  clear HC
  rintro e w3 ⟨rfl, m3, hb4, _⟩
  have hB4 := hB3.trans hb4
  have hc := many_open (i := 0) m3 hB4.size rfl
  unfold OpenP at hc
  have HC := Lib.hid hc
  clear hc
  have hpl := HPL.out
  clear HPL
  generalize (saveE s0 G l).1 = x at *
  generalize (saveE s0 G l).2 = s1 at *
  generalize openE s1 = f at *
  generalize openH s1 = hd at *
  obtain ⟨hg, hp⟩ := hd
  simp only at hpl
  go_wp2_with fail
  refine HC.out.mono ?_
  clear HC
  rintro e w4 ⟨A, c, rfl, hby4, _, hb5, _⟩
  have hB5 := (hB4.trans hb5).alloc (hB4.trans hb5).size (.cells #[.int .u64 hg, .slice A hp.length c] 30)
  have hzq : z % 4 = q := HQ.out
  rcases hpl with ⟨h1, rfl, rfl⟩ | ⟨h1, rfl, rfl, rfl, rfl⟩ | ⟨h1, h2, h3, rfl, rfl⟩ | ⟨h1, h2, h3, rfl, rfl, rfl, h4⟩
  · have ht : z % 4 < 2 := by omega
    clear hzq
    go_wp2
    go_ret
    exact ⟨rfl, hB5⟩
  · have ht : ¬ z % 4 < 2 := by omega
    clear hzq
    go_wp2
    go_ret
    exact ⟨rfl, hB5⟩
  · have ht : ¬ z % 4 < 2 := by omega
    have hgb : (G == 0) = false := by simpa using h2
    have hk : (200 : Int) < (l.length : Int) := by omega
    clear hzq h2
    go_wp2
    go_ret
    exact ⟨rfl, hB5⟩
  · have ht : ¬ z % 4 < 2 := by omega
    have hgb : (hg == 0) = false := by simpa using h2
    have hk : ¬ (200 : Int) < (l.length : Int) := by omega
    have hll : ((hp.length : Int) == (l.length : Int)) = true := by simp; omega
    clear hzq h2 h4
    go_wp2
    go_ret
    exact ⟨rfl, hB5⟩
end Go.Proofs.Ytobdbkhjdhnooaa
