/-
  The program's disk and the reference's in step, within bounds.
-/
import Derived.Test.YtobdbkhjdhnooaaEc
set_option linter.unusedVariables false
namespace Go.Proofs.Ytobdbkhjdhnooaa
open Go.RowKit

/-- Both disks in step, and within bounds: at most k writes so far. -/
structure St (k : Nat) (s : DS) (r : RS) : Prop where
  sim : Sim s r
  sz0 : 0 ≤ s.size
  sz1 : s.size ≤ 65536
  fu : s.fuse ≤ 9223372036854775807
  len : r.all.length ≤ k
theorem burnS_fuse (s : DS) (h : s.fuse ≤ 9223372036854775807) : (burnS s).fuse ≤ 9223372036854775807 ∧ (burnS s).size = s.size := by
  unfold burnS
  split
  · exact ⟨h, rfl⟩
  · split
    · exact ⟨by show s.fuse - 1 ≤ _; omega, rfl⟩
    · exact ⟨h, rfl⟩
theorem rburnS_all (r : RS) : (rburnS r).all = r.all := by
  unfold rburnS
  split
  · rfl
  · split <;> rfl
theorem St.mono {k k' : Nat} {s : DS} {r : RS} (h : St k s r) (hk : k ≤ k') : St k' s r := ⟨h.sim, h.sz0, h.sz1, h.fu, Nat.le_trans h.len hk⟩
theorem St.pend {k : Nat} {s : DS} {r : RS} (h : St k s r) : s.pend.length ≤ k := by
  have := h.sim.pending
  have := h.len
  omega
theorem St.rfu {k : Nat} {s : DS} {r : RS} (h : St k s r) : r.fuse ≤ 9223372036854775807 := by rw [h.sim.fuse]; exact h.fu
theorem St.write {k : Nat} {s : DS} {r : RS} (h : St k s r) (n : Int) (l : List Int) : (rwriteE r n l).1 = (writeE s n l).1 ∧ St (k + 1) (writeE s n l).2 (rwriteE r n l).2 := by
  obtain ⟨h1, h2⟩ := h.sim.write n l
  have hb := burnS_fuse s h.fu
  refine ⟨h1, h2, ?_, ?_, ?_, ?_⟩
  · unfold writeE; repeat' split
    all_goals first | exact h.sz0 | (show 0 ≤ (burnS s).size; rw [hb.2]; exact h.sz0)
  · unfold writeE; repeat' split
    all_goals first | exact h.sz1 | (show (burnS s).size ≤ _; rw [hb.2]; exact h.sz1)
  · unfold writeE; repeat' split
    all_goals first | exact h.fu | exact hb.1
  · have := h.len
    unfold rwriteE; repeat' split
    all_goals first | (show r.all.length ≤ _; omega) | (show (rburnS r).all.length ≤ _; rw [rburnS_all]; omega) | (show ((rburnS r).all ++ [(n, l)]).length ≤ _; rw [rburnS_all, List.length_append]; simp; omega)
theorem St.read {k : Nat} {s : DS} {r : RS} (h : St k s r) (n : Int) : (rreadE r n).1 = (readE s n).1 ∧ St (k + 1) (readE s n).2 (rreadE r n).2 ∧ rreadL r n = readL s n := by
  obtain ⟨h1, h2, h3⟩ := h.sim.read n
  refine ⟨h1, ⟨h2, ?_, ?_, ?_, ?_⟩, h3⟩
  · unfold readE; repeat' split
    all_goals exact h.sz0
  · unfold readE; repeat' split
    all_goals exact h.sz1
  · unfold readE; repeat' split
    all_goals exact h.fu
  · have := h.len
    unfold rreadE; repeat' split
    all_goals (show r.all.length ≤ _; omega)
theorem St.sync {k : Nat} {s : DS} {r : RS} (h : St k s r) : (rsyncE r).1 = (syncE s).1 ∧ St (k + 1) (syncE s).2 (rsyncE r).2 := by
  obtain ⟨h1, h2⟩ := h.sim.sync
  have hb := burnS_fuse s h.fu
  refine ⟨h1, h2, ?_, ?_, ?_, ?_⟩
  · unfold syncE; repeat' split
    all_goals first | exact h.sz0 | (show 0 ≤ (burnS s).size; rw [hb.2]; exact h.sz0)
  · unfold syncE; repeat' split
    all_goals first | exact h.sz1 | (show (burnS s).size ≤ _; rw [hb.2]; exact h.sz1)
  · unfold syncE; repeat' split
    all_goals first | exact h.fu | exact hb.1
  · have := h.len
    unfold rsyncE; repeat' split
    all_goals first | (show r.all.length ≤ _; omega) | (show (rburnS r).all.length ≤ _; rw [rburnS_all]; omega)
theorem St.fuse {k : Nat} {s : DS} {r : RS} (h : St k s r) (n : Int) (hn : n ≤ 9223372036854775807) : St (k + 1) { s with fuse := max n (-1) } { r with fuse := max n (-1) } :=
  ⟨h.sim.setFuse _, h.sz0, h.sz1, by show max n (-1) ≤ _; omega, by have := h.len; show r.all.length ≤ _; omega⟩
theorem St.cut {k : Nat} {s : DS} {r : RS} (h : St k s r) (keep : List Bool) : St (k + 1) (cutS s keep) (rcutS r keep) := by
  refine ⟨h.sim.cut keep h.sz0 h.sz1, h.sz0, h.sz1, by show (-1 : Int) ≤ _; decide, ?_⟩
  have := h.len
  have h2 := rk_len r keep r.all.length
  rw [rk_all r keep h.sim.le] at h2
  show (rkept r keep).length ≤ _
  omega

theorem KR.blk {w w' : World} (h : KR w w') {g : Nat} {t : TypeId} {cs : Array Value} (hb : Blk w g t cs) (h1 : t ≠ 58) (h2 : t ≠ 84) : Blk w' g t cs := by
  refine (h.block g hb.lt fun hr => ?_).trans hb
  obtain ⟨cur, t', mk, hh, e⟩ := hr
  unfold Blk at hb
  rw [hb] at hh
  injection hh with hh
  injection hh with _ hh
  rcases e with e | e
  · exact h1 (hh.trans e)
  · exact h2 (hh.trans e)
theorem RefAt.drew {w : World} {B g : Nat} {r : RS} (h : RefAt w B g r) : RefAt w.drew B g r := h.keep (BKA.of_below (Below.refl _ _).drew) (Nat.le_refl _)
theorem RefAt.below {w w' : World} {B g : Nat} {r : RS} (h : RefAt w B g r) (hb : Below w.heap.size w w') : RefAt w' B g r := h.keep (BKA.of_below hb) hb.size
/-- Both answer a write alike. -/
theorem both_write {k : Nat} {s : DS} {r : RS} (h : St k s r) (n : Int) (l : List Int) : ∃ x s' r', writeE s n l = (x, s') ∧ rwriteE r n l = (x, r') ∧ St (k + 1) s' r' := by
  obtain ⟨h1, h2⟩ := h.write n l
  exact ⟨(writeE s n l).1, (writeE s n l).2, (rwriteE r n l).2, rfl, by rw [← h1], h2⟩
theorem both_read {k : Nat} {s : DS} {r : RS} (h : St k s r) (n : Int) : ∃ x s' r', readE s n = (x, s') ∧ rreadE r n = (x, r') ∧ rreadL r n = readL s n ∧ St (k + 1) s' r' := by
  obtain ⟨h1, h2, h3⟩ := h.read n
  exact ⟨(readE s n).1, (readE s n).2, (rreadE r n).2, rfl, by rw [← h1], h3, h2⟩
theorem both_sync {k : Nat} {s : DS} {r : RS} (h : St k s r) : ∃ x s' r', syncE s = (x, s') ∧ rsyncE r = (x, r') ∧ St (k + 1) s' r' := by
  obtain ⟨h1, h2⟩ := h.sync
  exact ⟨(syncE s).1, (syncE s).2, (rsyncE r).2, rfl, by rw [← h1], h2⟩

end Go.Proofs.Ytobdbkhjdhnooaa
