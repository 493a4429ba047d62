/-
  Plain words: a head in a sector; what Save and Open make of a disk.
-/
import Derived.Test.YtobdbkhjdhnooaaNb
import Derived.Test.YtobdbkhjdhnooaaDf
set_option linter.unusedVariables false
namespace Go.Proofs.Ytobdbkhjdhnooaa
open Go.RowKit

theorem be64_oct (x : Int) : Oct (be64 x) := fun y hy => by
  simp only [be64, List.mem_cons, List.not_mem_nil, or_false] at hy
  omega
/-- A head's sector. -/
def secH (G : Int) (p : List Int) : List Int := be64 G ++ ((p.length : Int) % 256) :: (p ++ List.replicate (247 - p.length) 0)
theorem secH_len (G : Int) (p : List Int) (h : p.length ≤ 247) : (secH G p).length = 256 := by
  unfold secH
  simp only [List.length_append, be64_len, List.length_cons, List.length_replicate]
  omega
theorem secH_oct (G : Int) (p : List Int) (h : Oct p) : Oct (secH G p) :=
  (be64_oct G).app (Oct.cons (by omega) (by omega) (h.app fun x hx => by have := List.eq_of_mem_replicate hx; omega))
def nOf (s : List Int) : Nat := (s.getD 8 0).toNat
def gOf (s : List Int) : Int := num (s.take 8) 0
def pOf (s : List Int) : List Int := (s.drop 9).take (nOf s)
/-- What a sector tells. -/
def headOf (s : List Int) : Int × List Int :=
  if 200 < nOf s then (0, []) else if s = secH (gOf s) (pOf s) ∧ gOf s ≠ 0 then (gOf s, pOf s) else (0, [])
theorem nOf_sec (G : Int) (p : List Int) (hp : p.length ≤ 200) : nOf (secH G p) = p.length := by
  unfold nOf secH be64
  simp only [List.cons_append, List.nil_append, List.getD_cons_succ, List.getD_cons_zero]
  omega
theorem gOf_sec (G : Int) (p : List Int) (h0 : 0 ≤ G) (h1 : G ≤ 18446744073709551615) : gOf (secH G p) = G := by
  have e : (secH G p).take 8 = be64 G := by unfold secH be64; rfl
  unfold gOf
  rw [e]
  exact num_be64 G h0 h1
theorem pOf_sec (G : Int) (p : List Int) (hp : p.length ≤ 200) : pOf (secH G p) = p := by
  unfold pOf
  rw [nOf_sec G p hp]
  have e : (secH G p).drop 9 = p ++ List.replicate (247 - p.length) 0 := by unfold secH be64; rfl
  rw [e, List.take_left']
  rfl
theorem headOf_sec (G : Int) (p : List Int) (h0 : 0 < G) (h1 : G ≤ 18446744073709551615) (hp : p.length ≤ 200) : headOf (secH G p) = (G, p) := by
  unfold headOf
  rw [nOf_sec G p hp, gOf_sec G p (by omega) h1, pOf_sec G p hp, if_neg (by omega), if_pos ⟨rfl, by omega⟩]
theorem headOf_zero : headOf zeroSec = (0, []) := by
  unfold headOf
  have hn : nOf zeroSec = 0 := by unfold nOf zeroSec; rfl
  have hg : gOf zeroSec = 0 := by unfold gOf zeroSec; rw [List.take_replicate]; rfl
  rw [hn, hg, if_neg (by decide), if_neg (fun h => h.2 rfl)]
theorem headOf_bd (s : List Int) (h : Oct s) (hl : s.length = 256) : 0 ≤ (headOf s).1 ∧ (headOf s).1 ≤ 18446744073709551615 ∧ (headOf s).2.length ≤ 200 := by
  unfold headOf
  have hg := num_eight (s.take 8) (h.take 8) (by rw [List.length_take]; omega)
  have hp : (pOf s).length ≤ nOf s := by unfold pOf; rw [List.length_take]; omega
  split
  · exact ⟨by decide, by decide, by simp⟩
  · split
    · exact ⟨hg.1, hg.2, by show (pOf s).length ≤ 200; omega⟩
    · exact ⟨by decide, by decide, by simp⟩

/-- What is answered to a Save, and the disk behind it. -/
def saveE (s : DS) (G : Int) (p : List Int) : Int × DS :=
  if s.size < 2 ∨ G = 0 then (1, s) else if 200 < p.length then (3, s) else
  if (syncE s).1 ≠ 0 then (7, (syncE s).2) else
  if (writeE (syncE s).2 (G % 2) (secH G p)).1 ≠ 0 then (7, (writeE (syncE s).2 (G % 2) (secH G p)).2) else
  if (syncE (writeE (syncE s).2 (G % 2) (secH G p)).2).1 ≠ 0 then (7, (syncE (writeE (syncE s).2 (G % 2) (secH G p)).2).2) else
  (0, (syncE (writeE (syncE s).2 (G % 2) (secH G p)).2).2)
/-- The greater one of two heads; the first one, if they are alike. -/
def maxH (x y : Int × List Int) : Int × List Int := if x.1 < y.1 then y else x
def open2 (s : DS) : DS := (readE (readE s 0).2 1).2
/-- What Open answers: the head, the error; and the disk behind it. -/
def openH (s : DS) : Int × List Int :=
  if s.size < 2 then (0, []) else if (readE s 0).1 ≠ 0 ∨ (readE (readE s 0).2 1).1 ≠ 0 then (0, []) else maxH (headOf (rd s 0)) (headOf (rd s 1))
def openE (s : DS) : Int := if s.size < 2 then 1 else if (readE s 0).1 ≠ 0 ∨ (readE (readE s 0).2 1).1 ≠ 0 then 7 else 0
def openS (s : DS) : DS := if s.size < 2 then s else open2 s
theorem rd_read (s : DS) (n m : Int) : rd (readE s n).2 m = rd s m := by
  unfold rd readE
  split
  · rfl
  · split <;> rfl
theorem burn_bd (s : DS) (hf : s.fuse ≤ 9223372036854775807) : (burnS s).fuse ≤ 9223372036854775807 ∧ (burnS s).pend = s.pend ∧ (burnS s).size = s.size := by
  unfold burnS
  split
  · exact ⟨hf, rfl, rfl⟩
  · split
    · exact ⟨by show s.fuse - 1 ≤ _; omega, rfl, rfl⟩
    · exact ⟨hf, rfl, rfl⟩
theorem sync_bd (s : DS) (hf : s.fuse ≤ 9223372036854775807) : (syncE s).2.fuse ≤ 9223372036854775807 ∧ (syncE s).2.pend.length ≤ s.pend.length ∧ (syncE s).2.size = s.size := by
  have hb := burn_bd s hf
  unfold syncE
  split
  · exact ⟨hf, Nat.le_refl _, rfl⟩
  · split
    · exact ⟨hb.1, by show (burnS s).pend.length ≤ _; rw [hb.2.1]; exact Nat.le_refl _, hb.2.2⟩
    · exact ⟨hb.1, Nat.zero_le _, hb.2.2⟩
theorem write_bd (s : DS) (n : Int) (l : List Int) (hf : s.fuse ≤ 9223372036854775807) : (writeE s n l).2.fuse ≤ 9223372036854775807 ∧ (writeE s n l).2.pend.length ≤ s.pend.length + 1 ∧ (writeE s n l).2.size = s.size := by
  have hb := burn_bd s hf
  unfold writeE
  split
  · exact ⟨hf, Nat.le_succ _, rfl⟩
  · split
    · exact ⟨hf, Nat.le_succ _, rfl⟩
    · split
      · exact ⟨hb.1, by show (burnS s).pend.length ≤ _; rw [hb.2.1]; exact Nat.le_succ _, hb.2.2⟩
      · exact ⟨hb.1, by show ((burnS s).pend ++ [(n, l)]).length ≤ _; rw [hb.2.1, List.length_append]; exact Nat.le_refl _, hb.2.2⟩
theorem save_bd (s : DS) (G : Int) (p : List Int) (hf : s.fuse ≤ 9223372036854775807) : (saveE s G p).2.fuse ≤ 9223372036854775807 ∧ (saveE s G p).2.pend.length ≤ s.pend.length + 1 ∧ (saveE s G p).2.size = s.size := by
  have a := sync_bd s hf
  have b := write_bd (syncE s).2 (G % 2) (secH G p) a.1
  have c := sync_bd (writeE (syncE s).2 (G % 2) (secH G p)).2 b.1
  unfold saveE
  split
  · exact ⟨hf, Nat.le_succ _, rfl⟩
  · split
    · exact ⟨hf, Nat.le_succ _, rfl⟩
    · split
      · exact ⟨a.1, Nat.le_succ_of_le a.2.1, a.2.2⟩
      · split
        · exact ⟨b.1, by show (writeE (syncE s).2 (G % 2) (secH G p)).2.pend.length ≤ _ + 1; omega, b.2.2.trans a.2.2⟩
        · split <;> exact ⟨c.1, by show (syncE (writeE (syncE s).2 (G % 2) (secH G p)).2).2.pend.length ≤ _ + 1; omega, c.2.2.trans (b.2.2.trans a.2.2)⟩
end Go.Proofs.Ytobdbkhjdhnooaa
