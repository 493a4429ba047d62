/-
  Heads that are saved one behind the other, and a power cut: plain laws. munimentref08.Same.
-/
import Derived.Test.YtobdbkhjdhnooaaMi
set_option linter.unusedVariables false
namespace Go.Proofs.Ytobdbkhjdhnooaa
open Go.RowKit

/-- k heads were saved; the last one is was. -/
structure CU (s : DS) (was : Int × List Int) (k : Nat) : Prop where
  size : s.size = 3
  pend : s.pend = []
  down : s.down = false
  la : s.lasts = s.now
  fu : s.fuse ≤ 9223372036854775807
  gen : was.1 = k
  here : headOf (rd s ((k : Int) % 2)) = was
  there : (k = 0 ∧ headOf (rd s (((k : Int) + 1) % 2)) = was) ∨ (headOf (rd s (((k : Int) + 1) % 2))).1 < k
theorem CU.max {s : DS} {was : Int × List Int} {k : Nat} (h : CU s was k) : maxH (headOf (rd s 0)) (headOf (rd s 1)) = was := by
  have h1 := h.here
  have h2 := h.there
  have hg := h.gen
  rcases (by omega : (k : Int) % 2 = 0 ∨ (k : Int) % 2 = 1) with e | e
  · rw [e] at h1
    rw [show ((k : Int) + 1) % 2 = 1 by omega] at h2
    rw [h1]
    rcases h2 with ⟨_, h2⟩ | h2
    · rw [h2]; exact if_neg (by omega)
    · exact if_neg (by omega)
  · rw [e] at h1
    rw [show ((k : Int) + 1) % 2 = 0 by omega] at h2
    rw [h1]
    rcases h2 with ⟨h0, _⟩ | h2
    · omega
    · exact if_pos (by omega)
theorem open_cut (s : DS) (hz : s.size = 3) (keep : List Bool) : openE (cutS s keep) = 0 ∧ openH (cutS s keep) = maxH (headOf (rd (cutS s keep) 0)) (headOf (rd (cutS s keep) 1)) := by
  have h : HS 3 (cutS s keep) := ⟨hz, rfl, rfl⟩
  obtain ⟨o1, o2, _⟩ := h.open_ (by decide)
  exact ⟨o1, o2⟩
theorem CU.cut {s : DS} {was : Int × List Int} {k : Nat} (h : CU s was k) (keep : List Bool) : openH (cutS s keep) = was := by
  rw [(open_cut s h.size keep).2, rd_cut h.pend h.la, rd_cut h.pend h.la]
  exact h.max
theorem burn_same (s : DS) : (burnS s).now = s.now ∧ (burnS s).lasts = s.lasts ∧ (burnS s).pend = s.pend ∧ (burnS s).size = s.size := by
  unfold burnS
  split
  · exact ⟨rfl, rfl, rfl, rfl⟩
  · split <;> exact ⟨rfl, rfl, rfl, rfl⟩
theorem burn_down {s : DS} (h : s.fuse ≠ 0) : (burnS s).down = s.down := by
  unfold burnS
  rw [if_neg h]
  split <;> rfl
theorem rd_of {s s' : DS} (h : s'.now = s.now) (j : Int) : rd s' j = rd s j := by unfold rd; rw [h]
/-- What is found behind a cut within a Save, or behind it. -/
theorem CU.save {s : DS} {was : Int × List Int} {k : Nat} (h : CU s was k) (p : List Int) (hp : p.length ≤ 200) (hk : k ≤ 1000) :
    ((saveE s ((k : Int) + 1) p).1 = 0 ∧ CU (saveE s ((k : Int) + 1) p).2 ((k : Int) + 1, p) (k + 1)) ∨
    ((saveE s ((k : Int) + 1) p).1 = 7 ∧ (saveE s ((k : Int) + 1) p).2.size = 3 ∧ (saveE s ((k : Int) + 1) p).2.pend.length ≤ 1 ∧ ∀ keep, openH (cutS (saveE s ((k : Int) + 1) p).2 keep) = was ∨ openH (cutS (saveE s ((k : Int) + 1) p).2 keep) = ((k : Int) + 1, p)) := by
  have hnew := headOf_sec ((k : Int) + 1) p (by omega) (by omega) hp
  -- a disk that holds what s holds, with nothing pending
  have keepers : ∀ s' : DS, s'.size = 3 → s'.pend = [] → s'.now = s.now → s'.lasts = s.now → ∀ keep, openH (cutS s' keep) = was := fun s' a1 a2 a3 a4 keep => by
    rw [(open_cut s' a1 keep).2, rd_cut a2 (a4.trans a3.symm), rd_cut a2 (a4.trans a3.symm), rd_of a3, rd_of a3]
    exact h.max
  have hb := burn_same s
  by_cases f1 : s.fuse = 0
  · have e1 : syncE s = (7, burnS s) := by unfold syncE; rw [h.down, if_neg (by decide), if_pos f1]
    have e : saveE s ((k : Int) + 1) p = (7, burnS s) := by
      unfold saveE
      rw [h.size, if_neg (by omega), if_neg (by omega), e1, if_pos (show (7 : Int) ≠ 0 by decide)]
    rw [e]
    exact .inr ⟨rfl, hb.2.2.2.trans h.size, by show (burnS s).pend.length ≤ 1; rw [hb.2.2.1, h.pend]; exact Nat.zero_le _, fun keep => .inl (keepers _ (hb.2.2.2.trans h.size) (hb.2.2.1.trans h.pend) hb.1 (hb.2.1.trans h.la) keep)⟩
  · have e1 : syncE s = (0, syncedS (burnS s)) := by unfold syncE; rw [h.down, if_neg (by decide), if_neg f1]
    obtain ⟨s1, hs1⟩ : ∃ s1, s1 = syncedS (burnS s) := ⟨_, rfl⟩
    have b1 : s1.size = 3 ∧ s1.pend = [] ∧ s1.now = s.now ∧ s1.lasts = s.now ∧ s1.down = false := by
      rw [hs1]
      refine ⟨hb.2.2.2.trans h.size, rfl, hb.1, ?_, (burn_down f1).trans h.down⟩
      show applyW (burnS s).lasts (burnS s).pend = s.now
      rw [hb.2.1, hb.2.2.1, h.pend, h.la]
      rfl
    have fb1 : s1.fuse ≤ 9223372036854775807 := by rw [hs1]; exact (burn_bd s h.fu).1
    rw [← hs1] at e1
    clear hs1
    have hb1 := burn_same s1
    have hl := secH_len ((k : Int) + 1) p (by omega)
    by_cases f2 : s1.fuse = 0
    · have e2 : writeE s1 (((k : Int) + 1) % 2) (secH ((k : Int) + 1) p) = (7, burnS s1) := by unfold writeE; rw [b1.2.2.2.2, if_neg (by decide), b1.1, hl, if_neg (by omega), if_pos f2]
      have e : saveE s ((k : Int) + 1) p = (7, burnS s1) := by
        unfold saveE
        rw [h.size, if_neg (by omega), if_neg (by omega), e1, if_neg (show ¬ (0 : Int) ≠ 0 by decide)]
        simp only
        rw [e2, if_pos (show (7 : Int) ≠ 0 by decide)]
      rw [e]
      exact .inr ⟨rfl, hb1.2.2.2.trans b1.1, by show (burnS s1).pend.length ≤ 1; rw [hb1.2.2.1, b1.2.1]; exact Nat.zero_le _, fun keep => .inl (keepers _ (hb1.2.2.2.trans b1.1) (hb1.2.2.1.trans b1.2.1) (hb1.1.trans b1.2.2.1) (hb1.2.1.trans b1.2.2.2.1) keep)⟩
    · have e2 : writeE s1 (((k : Int) + 1) % 2) (secH ((k : Int) + 1) p) = (0, wroteS (burnS s1) (((k : Int) + 1) % 2) (secH ((k : Int) + 1) p)) := by unfold writeE; rw [b1.2.2.2.2, if_neg (by decide), b1.1, hl, if_neg (by omega), if_neg f2]
      obtain ⟨s2, hs2⟩ : ∃ s2, s2 = wroteS (burnS s1) (((k : Int) + 1) % 2) (secH ((k : Int) + 1) p) := ⟨_, rfl⟩
      have b2 : s2.size = 3 ∧ s2.pend = [(((k : Int) + 1) % 2, secH ((k : Int) + 1) p)] ∧ s2.now = updC s.now (((k : Int) + 1) % 2) (secH ((k : Int) + 1) p) ∧ s2.lasts = s.now ∧ s2.down = false := by
        rw [hs2]
        refine ⟨hb1.2.2.2.trans b1.1, ?_, ?_, hb1.2.1.trans b1.2.2.2.1, (burn_down f2).trans b1.2.2.2.2⟩
        · show (burnS s1).pend ++ [_] = _; rw [hb1.2.2.1, b1.2.1]; rfl
        · show updC (burnS s1).now _ _ = _; rw [hb1.1, b1.2.2.1]
      have fb2 : s2.fuse ≤ 9223372036854775807 := by rw [hs2]; exact (burn_bd s1 fb1).1
      rw [← hs2] at e2
      clear hs2
      have hb2 := burn_same s2
      have hrd : ∀ s' : DS, s'.now = s2.now → headOf (rd s' (((k : Int) + 1) % 2)) = ((k : Int) + 1, p) ∧ headOf (rd s' ((k : Int) % 2)) = was := fun s' hn => by
        unfold rd
        rw [hn, b2.2.2.1]
        unfold updC
        rw [if_pos rfl, if_neg (by omega)]
        exact ⟨hnew, h.here⟩
      have hmx : ∀ s' : DS, s'.now = s2.now → maxH (headOf (rd s' 0)) (headOf (rd s' 1)) = ((k : Int) + 1, p) := fun s' hn => by
        obtain ⟨r1, r2⟩ := hrd s' hn
        have hg := h.gen
        rcases (by omega : (k : Int) % 2 = 0 ∨ (k : Int) % 2 = 1) with e | e
        · rw [show ((k : Int) + 1) % 2 = 1 by omega] at r1
          rw [e] at r2
          rw [r1, r2]
          exact if_pos (by show was.1 < (k : Int) + 1; omega)
        · rw [show ((k : Int) + 1) % 2 = 0 by omega] at r1
          rw [e] at r2
          rw [r1, r2]
          exact if_neg (by show ¬ (k : Int) + 1 < was.1; omega)
      by_cases f3 : s2.fuse = 0
      · have e3 : syncE s2 = (7, burnS s2) := by unfold syncE; rw [b2.2.2.2.2, if_neg (by decide), if_pos f3]
        have e : saveE s ((k : Int) + 1) p = (7, burnS s2) := by
          unfold saveE
          rw [h.size, if_neg (by omega), if_neg (by omega), e1, if_neg (show ¬ (0 : Int) ≠ 0 by decide)]
          simp only
          rw [e2, if_neg (show ¬ (0 : Int) ≠ 0 by decide)]
          simp only
          rw [e3, if_pos (show (7 : Int) ≠ 0 by decide)]
        rw [e]
        refine .inr ⟨rfl, hb2.2.2.2.trans b2.1, by show (burnS s2).pend.length ≤ 1; rw [hb2.2.2.1, b2.2.1]; exact Nat.le_refl _, fun keep => ?_⟩
        have hz : (burnS s2).size = 3 := hb2.2.2.2.trans b2.1
        show openH (cutS (burnS s2) keep) = was ∨ openH (cutS (burnS s2) keep) = ((k : Int) + 1, p)
        rw [(open_cut _ hz keep).2]
        have hcn : (cutS (burnS s2) keep).now = applyW s.now (keptW [(((k : Int) + 1) % 2, secH ((k : Int) + 1) p)] keep 1) := by
          show applyW (burnS s2).lasts (keptW (burnS s2).pend keep (burnS s2).pend.length) = _
          rw [hb2.2.1, hb2.2.2.1, b2.2.1, b2.2.2.2.1]
          rfl
        have hkw := keptW_succ [(((k : Int) + 1) % 2, secH ((k : Int) + 1) p)] keep 0 (by simp)
        have hk0 : keptW [(((k : Int) + 1) % 2, secH ((k : Int) + 1) p)] keep 0 = [] := by simp [keptW]
        rw [hk0] at hkw
        simp only [Nat.zero_add, List.nil_append] at hkw
        by_cases hkp : keptAt keep 0 = true
        · rw [if_pos hkp] at hkw
          right
          refine hmx _ ?_
          rw [hcn, hkw, b2.2.2.1]
          rfl
        · rw [if_neg hkp] at hkw
          left
          have hn : (cutS (burnS s2) keep).now = s.now := by rw [hcn, hkw]; rfl
          rw [rd_of hn, rd_of hn]
          exact h.max
      · have e3 : syncE s2 = (0, syncedS (burnS s2)) := by unfold syncE; rw [b2.2.2.2.2, if_neg (by decide), if_neg f3]
        have e : saveE s ((k : Int) + 1) p = (0, syncedS (burnS s2)) := by
          unfold saveE
          rw [h.size, if_neg (by omega), if_neg (by omega), e1, if_neg (show ¬ (0 : Int) ≠ 0 by decide)]
          simp only
          rw [e2, if_neg (show ¬ (0 : Int) ≠ 0 by decide)]
          simp only
          rw [e3, if_neg (show ¬ (0 : Int) ≠ 0 by decide)]
        rw [e]
        have hn3 : (syncedS (burnS s2)).now = s2.now := hb2.1
        obtain ⟨r1, r2⟩ := hrd _ hn3
        refine .inl ⟨rfl, hb2.2.2.2.trans b2.1, rfl, (burn_down f3).trans b2.2.2.2.2, ?_, (burn_bd s2 fb2).1, by show (k : Int) + 1 = ((k + 1 : Nat) : Int); omega, ?_, .inr ?_⟩
        · show applyW (burnS s2).lasts (burnS s2).pend = (burnS s2).now
          rw [hb2.2.1, hb2.2.2.1, hb2.1, b2.2.1, b2.2.2.1, b2.2.2.2.1]
          rfl
        · rw [show ((k + 1 : Nat) : Int) % 2 = ((k : Int) + 1) % 2 by omega]
          exact r1
        · rw [show (((k + 1 : Nat) : Int) + 1) % 2 = (k : Int) % 2 by omega]
          show (headOf (rd (syncedS (burnS s2)) ((k : Int) % 2))).1 < ((k + 1 : Nat) : Int)
          rw [r2, h.gen]
          omega

set_option maxHeartbeats 1000000 in
theorem hsame_any (g1 : Int) (A1 : Option Addr) (l1 : List Int) (c1 : Nat) (g2 : Int) (A2 : Option Addr) (l2 : List Int) (c2 : Nat) (w : World) (h1 : Cells w w.heap.size A1 (U8 l1)) (h2 : Cells w w.heap.size A2 (U8 l2)) (hl : l1.length ≤ 1000) :
    Calls Try.prog 17 #[.agg #[.int .u64 g1, .slice A1 l1.length c1], .agg #[.int .u64 g2, .slice A2 l2.length c2]] w fun e w' => e = .returned (.bool (decide ((g1, l1) = (g2, l2)))) ∧ Below w.heap.size w w' := by
  have hb : Below w.heap.size w ((w.alloc (.cells #[.int .u64 g1, .slice A1 l1.length c1] 44)).alloc (.cells #[.int .u64 g2, .slice A2 l2.length c2] 44)) := ((Below.refl _ _).alloc (Nat.le_refl _) _).alloc (by simp) _
  by_cases hg : g1 = g2
  · have hgb : (g1 == g2) = true := by simpa using hg
    have HS := Lib.hid (same_b A1 A2 l1 l2 c1 c2 _ (h1.below hb).whole (h2.below hb).whole (by omega))
    have HF : Hid (sameB l1 l2 = decide ((g1, l1) = (g2, l2))) := Lib.hid (by unfold sameB; subst hg; simp)
    clear hg
    go_enter Try.func17, Try.ntmps17
    go_wp2_with fail
    refine HS.out.mono ?_
    rintro e w1 ⟨rfl, hb1⟩
    go_wp2
    go_ret
    exact ⟨ret_bool HF.out, hb.trans (hb1.mono hb.size)⟩
  · have hgb : (g1 == g2) = false := by simpa using hg
    have HF : Hid (false = decide ((g1, l1) = (g2, l2))) := Lib.hid (by simp [hg])
    clear hg
    go_enter Try.func17, Try.ntmps17
    go_wp2
    go_ret
    exact ⟨ret_bool HF.out, hb⟩
end Go.Proofs.Ytobdbkhjdhnooaa
