/-
  The program's disk and the reference's in step: plain laws.
-/
import Derived.Test.YtobdbkhjdhnooaaEa
set_option linter.unusedVariables false
namespace Go.Proofs.Ytobdbkhjdhnooaa
open Go.RowKit

def noC : Int → Option (List Int) := fun _ => none
theorem applyW_app (c : Int → Option (List Int)) (a b : List (Int × List Int)) : applyW c (a ++ b) = applyW (applyW c a) b := by simp [applyW, List.foldl_append]

def rwroteS (r : RS) (n : Int) (l : List Int) : RS := { r with a1 := wrap64 (r.a1 + 1), all := r.all ++ [(n, l)] }
def rwriteE (r : RS) (n : Int) (l : List Int) : Int × RS :=
  if r.no = true then (7, r) else if n < 0 ∨ r.size ≤ n ∨ l.length ≠ 256 then (1, r) else if r.fuse = 0 then (7, rburnS r) else (0, rwroteS (rburnS r) n l)
def rreadE (r : RS) (n : Int) : Int × RS :=
  if r.no = true then (7, r) else if n < 0 ∨ r.size ≤ n then (1, r) else (0, { r with a0 := wrap64 (r.a0 + 1) })
def rrd (r : RS) (n : Int) : List Int := (applyW noC r.all n).getD zeroSec
def rreadL (r : RS) (n : Int) : List Int := if (rreadE r n).1 = 0 then rrd r n else []
def rsyncedS (r : RS) : RS := { r with a2 := wrap64 (r.a2 + 1), lasts := r.all.length }
def rsyncE (r : RS) : Int × RS := if r.no = true then (7, r) else if r.fuse = 0 then (7, rburnS r) else (0, rsyncedS (rburnS r))
/-- The writes that are there behind a cut. -/
def rkept (r : RS) (keep : List Bool) : List (Int × List Int) := r.all.take r.lasts ++ keptW (r.all.drop r.lasts) keep (r.all.drop r.lasts).length
def rcutS (r : RS) (keep : List Bool) : RS := { newR r.size with all := rkept r keep, lasts := (rkept r keep).length }

/-- Both in step. -/
structure Sim (s : DS) (r : RS) : Prop where
  size : r.size = s.size
  fuse : r.fuse = s.fuse
  no : r.no = s.down
  a0 : r.a0 = s.a0
  a1 : r.a1 = s.a1
  a2 : r.a2 = s.a2
  le : r.lasts ≤ r.all.length
  now : s.now = applyW noC r.all
  lasts : s.lasts = applyW noC (r.all.take r.lasts)
  pend : s.pend = r.all.drop r.lasts

theorem Sim.new (n : Int) : Sim (newDS n) (newR n) := ⟨rfl, rfl, rfl, rfl, rfl, rfl, Nat.le_refl _, rfl, rfl, rfl⟩
theorem Sim.burn {s : DS} {r : RS} (h : Sim s r) : Sim (burnS s) (rburnS r) := by
  unfold burnS rburnS
  rw [h.fuse]
  by_cases h0 : s.fuse = 0
  · rw [if_pos h0, if_pos h0]
    exact ⟨h.size, rfl, rfl, h.a0, h.a1, h.a2, h.le, h.now, h.lasts, h.pend⟩
  · rw [if_neg h0, if_neg h0]
    by_cases h1 : 0 < s.fuse
    · rw [if_pos h1, if_pos h1]
      exact ⟨h.size, rfl, h.no, h.a0, h.a1, h.a2, h.le, h.now, h.lasts, h.pend⟩
    · rw [if_neg h1, if_neg h1]
      exact h
theorem Sim.wrote {s : DS} {r : RS} (h : Sim s r) (n : Int) (l : List Int) : Sim (wroteS s n l) (rwroteS r n l) where
  size := h.size
  fuse := h.fuse
  no := h.no
  a0 := h.a0
  a1 := by show wrap64 (r.a1 + 1) = wrap64 (s.a1 + 1); rw [h.a1]
  a2 := h.a2
  le := by have := h.le; show r.lasts ≤ (r.all ++ [(n, l)]).length; simp; omega
  now := by show updC s.now n l = applyW noC (r.all ++ [(n, l)]); rw [applyW_snoc, h.now]
  lasts := by show s.lasts = applyW noC ((r.all ++ [(n, l)]).take r.lasts); rw [List.take_append_of_le_length h.le]; exact h.lasts
  pend := by show s.pend ++ [(n, l)] = (r.all ++ [(n, l)]).drop r.lasts; rw [List.drop_append_of_le_length h.le, h.pend]
theorem Sim.write {s : DS} {r : RS} (h : Sim s r) (n : Int) (l : List Int) : (rwriteE r n l).1 = (writeE s n l).1 ∧ Sim (writeE s n l).2 (rwriteE r n l).2 := by
  unfold writeE rwriteE
  rw [h.no, h.size, h.fuse]
  by_cases h1 : s.down = true
  · rw [if_pos h1, if_pos h1]; exact ⟨rfl, h⟩
  · rw [if_neg h1, if_neg h1]
    by_cases h2 : n < 0 ∨ s.size ≤ n ∨ l.length ≠ 256
    · rw [if_pos h2, if_pos h2]; exact ⟨rfl, h⟩
    · rw [if_neg h2, if_neg h2]
      by_cases h3 : s.fuse = 0
      · rw [if_pos h3, if_pos h3]; exact ⟨rfl, h.burn⟩
      · rw [if_neg h3, if_neg h3]; exact ⟨rfl, h.burn.wrote n l⟩
theorem Sim.read {s : DS} {r : RS} (h : Sim s r) (n : Int) : (rreadE r n).1 = (readE s n).1 ∧ Sim (readE s n).2 (rreadE r n).2 ∧ rreadL r n = readL s n := by
  have e : rrd r n = rd s n := by unfold rrd rd; rw [h.now]
  unfold rreadL readL
  rw [e]
  unfold readE rreadE
  rw [h.no, h.size]
  by_cases h1 : s.down = true
  · rw [if_pos h1, if_pos h1]; exact ⟨rfl, h, rfl⟩
  · rw [if_neg h1, if_neg h1]
    by_cases h2 : n < 0 ∨ s.size ≤ n
    · rw [if_pos h2, if_pos h2]; exact ⟨rfl, h, rfl⟩
    · rw [if_neg h2, if_neg h2]
      exact ⟨rfl, ⟨rfl, h.fuse, rfl, by show wrap64 (r.a0 + 1) = wrap64 (s.a0 + 1); rw [h.a0], h.a1, h.a2, h.le, h.now, h.lasts, h.pend⟩, rfl⟩
theorem Sim.synced {s : DS} {r : RS} (h : Sim s r) : Sim (syncedS s) (rsyncedS r) where
  size := h.size
  fuse := h.fuse
  no := h.no
  a0 := h.a0
  a1 := h.a1
  a2 := by show wrap64 (r.a2 + 1) = wrap64 (s.a2 + 1); rw [h.a2]
  le := Nat.le_refl _
  now := h.now
  lasts := by
    show applyW s.lasts s.pend = applyW noC (r.all.take r.all.length)
    rw [h.lasts, h.pend, ← applyW_app, List.take_append_drop, List.take_length]
  pend := by show [] = r.all.drop r.all.length; rw [List.drop_length]
theorem Sim.sync {s : DS} {r : RS} (h : Sim s r) : (rsyncE r).1 = (syncE s).1 ∧ Sim (syncE s).2 (rsyncE r).2 := by
  unfold syncE rsyncE
  rw [h.no, h.fuse]
  by_cases h1 : s.down = true
  · rw [if_pos h1, if_pos h1]; exact ⟨rfl, h⟩
  · rw [if_neg h1, if_neg h1]
    by_cases h3 : s.fuse = 0
    · rw [if_pos h3, if_pos h3]; exact ⟨rfl, h.burn⟩
    · rw [if_neg h3, if_neg h3]; exact ⟨rfl, h.burn.synced⟩
theorem Sim.setFuse {s : DS} {r : RS} (h : Sim s r) (n : Int) : Sim { s with fuse := n } { r with fuse := n } :=
  ⟨h.size, rfl, h.no, h.a0, h.a1, h.a2, h.le, h.now, h.lasts, h.pend⟩
theorem Sim.cut {s : DS} {r : RS} (h : Sim s r) (keep : List Bool) (h0 : 0 ≤ s.size) (h1 : s.size ≤ 65536) : Sim (cutS s keep) (rcutS r keep) where
  size := by show min (max r.size 0) 65536 = s.size; rw [h.size]; omega
  fuse := rfl
  no := rfl
  a0 := rfl
  a1 := rfl
  a2 := rfl
  le := Nat.le_refl _
  now := by
    show applyW s.lasts (keptW s.pend keep s.pend.length) = applyW noC (rkept r keep)
    unfold rkept
    rw [h.lasts, h.pend, ← applyW_app]
  lasts := by
    show applyW s.lasts (keptW s.pend keep s.pend.length) = applyW noC ((rkept r keep).take (rkept r keep).length)
    rw [List.take_length]
    unfold rkept
    rw [h.lasts, h.pend, ← applyW_app]
  pend := by show [] = (rkept r keep).drop (rkept r keep).length; rw [List.drop_length]
theorem Sim.pending {s : DS} {r : RS} (h : Sim s r) : r.all.length - r.lasts = s.pend.length := by rw [h.pend, List.length_drop]
end Go.Proofs.Ytobdbkhjdhnooaa
