/-
  The contracts of (*Journal).Sync and (*Journal).Append.
-/
import Derived.Test.YtcgnfkiimnpdcaaJc
import Derived.Test.YtcgnfkiimnpdcaaJq
set_option linter.unusedVariables false
namespace Go.Proofs.Ytcgnfkiimnpdcaa
open Go.RowKit

theorem syncE_val (s : DS) : (syncE s).1 = 0 ∨ (syncE s).1 = 7 := by
  unfold syncE
  split
  · exact .inr rfl
  · split
    · exact .inr rfl
    · exact .inl rfl
theorem writeE_val (s : DS) (n : Int) (l : List Int) : (writeE s n l).1 = 0 ∨ (writeE s n l).1 = 1 ∨ (writeE s n l).1 = 7 := by
  unfold writeE
  split
  · exact .inr (.inr rfl)
  · split
    · exact .inr (.inl rfl)
    · split
      · exact .inr (.inr rfl)
      · exact .inl rfl
theorem burn_bd (s : DS) (hf : s.fuse ≤ 9223372036854775807) : (burnS s).fuse ≤ 9223372036854775807 ∧ (burnS s).pend = s.pend ∧ (burnS s).size = s.size := by
  unfold burnS
  split
  · exact ⟨hf, rfl, rfl⟩
  · split
    · exact ⟨by show s.fuse - 1 ≤ _; omega, rfl, rfl⟩
    · exact ⟨hf, rfl, rfl⟩
theorem sync_bd (s : DS) (hf : s.fuse ≤ 9223372036854775807) : (syncE s).2.fuse ≤ 9223372036854775807 ∧ (syncE s).2.pend.length ≤ s.pend.length ∧ (syncE s).2.size = s.size := by
  have hb := burn_bd s hf
  unfold syncE
  split
  · exact ⟨hf, Nat.le_refl _, rfl⟩
  · split
    · exact ⟨hb.1, by show (burnS s).pend.length ≤ _; rw [hb.2.1]; exact Nat.le_refl _, hb.2.2⟩
    · exact ⟨hb.1, Nat.zero_le _, hb.2.2⟩
theorem write_bd (s : DS) (n : Int) (l : List Int) (hf : s.fuse ≤ 9223372036854775807) : (writeE s n l).2.fuse ≤ 9223372036854775807 ∧ (writeE s n l).2.pend.length ≤ s.pend.length + 1 ∧ (writeE s n l).2.size = s.size := by
  have hb := burn_bd s hf
  unfold writeE
  split
  · exact ⟨hf, Nat.le_succ _, rfl⟩
  · split
    · exact ⟨hf, Nat.le_succ _, rfl⟩
    · split
      · exact ⟨hb.1, by show (burnS s).pend.length ≤ _; rw [hb.2.1]; exact Nat.le_succ _, hb.2.2⟩
      · exact ⟨hb.1, by show ((burnS s).pend ++ [(n, l)]).length ≤ _; rw [hb.2.1, List.length_append]; exact Nat.le_refl _, hb.2.2⟩
/-- What is answered to a Sync; the disk and the journal behind it. -/
def jsyncE (s : DS) (j : JS) : Int × DS × JS :=
  if j.over = true then (7, s, j) else if (syncE s).1 = 0 then (0, (syncE s).2, j) else (7, (syncE s).2, { j with over := true })
/-- The parts of a record from one on are written. -/
def putE (b : List Int) : Nat → Nat → DS → JS → Bool × DS × JS
  | 0, _, s, j => (true, s, j)
  | k + 1, p, s, j => if (writeE s (j.frm + j.nxt) (jsec j.E j.nxt j.rcs p b)).1 = 0 then putE b k (p + 1) (writeE s (j.frm + j.nxt) (jsec j.E j.nxt j.rcs p b)).2 { j with nxt := j.nxt + 1 }
    else (false, (writeE s (j.frm + j.nxt) (jsec j.E j.nxt j.rcs p b)).2, { j with over := true })
/-- What is answered behind the parts. -/
def doneE (r : Bool × DS × JS) : Int × DS × JS := if r.1 = true then (0, r.2.1, { r.2.2 with rcs := r.2.2.rcs + 1 }) else (7, r.2.1, r.2.2)
/-- What is answered to an Append; the disk and the journal behind it. -/
def appendE (s : DS) (j : JS) (b : List Int) : Int × DS × JS :=
  if j.over = true then (7, s, j) else if b.length = 0 then (1, s, j) else if 8000 < b.length then (3, s, j) else
  if (j.cnt : Int) - j.nxt < partsN b.length then (6, s, j) else
  doneE (putE b (partsN b.length) 0 s j)
/-- What an act of a journal leaves. -/
def JDone (B : Nat) (L : List (Nat × DS)) (i g a : Nat) (r : Int × DS × JS) (w : World) (e : Ending) (w' : World) : Prop :=
  e = .returned (.int .i64 r.1) ∧ Many B w' (L.set i (g, r.2.1)) ∧ JAt w' a g r.2.2 ∧ Below B w w' ∧ BKJ w w'
theorem set_same {L : List (Nat × DS)} {i : Nat} {x : Nat × DS} (hi : L[i]? = some x) : L.set i x = L := by
  apply List.ext_getElem?
  intro j
  rw [List.getElem?_set]
  split
  · rename_i e
    subst e
    rw [hi]
    split
    · rfl
    · rename_i hlt
      rw [List.getElem?_eq_none (by omega)] at hi
      cases hi
  · rfl
theorem JDone.no {B : Nat} {L : List (Nat × DS)} {i g a : Nat} {w w' : World} {s : DS} {j : JS} {x : Int} (h : Many B w L) (hi : L[i]? = some (g, s)) (hj : JAt w a g j) (hB : B ≤ w.heap.size) (hb : Below w.heap.size w w') : JDone B L i g a (x, s, j) w (.returned (.int .i64 x)) w' := by
  unfold JDone
  rw [set_same hi]
  exact ⟨rfl, h.below hb, hj.below hb hj.lt, hb.mono hB, (BKA.of_below hb).j⟩

section
variable {B : Nat} {w : World} {L : List (Nat × DS)} (h : Many B w L) (hB : B ≤ w.heap.size) {i g a : Nat} {s : DS} {j : JS} (hi : L[i]? = some (g, s)) (hj : JAt w a g j) (ha : B ≤ a)
include h hB hi hj ha
set_option maxHeartbeats 2000000 in
theorem jsync_any (hf : s.fuse ≤ 9223372036854775807) (hp : s.pend.length ≤ 1000000000) :
    Calls Try.prog 15 #[.pointer (some ⟨a, 0, none⟩)] w (JDone B L i g a (jsyncE s j) w) := by
  have c6 : w.cell? ⟨a, 6, none⟩ = some (.bool j.over) := hj.cell 6
  have c0 : w.cell? ⟨a, 0, none⟩ = some (.pointer (some ⟨g, 0, none⟩)) := hj.cell 0
  have HS := Lib.hid (many_sync (i := i) h hB hi hf hp)
  cases hov : j.over with
  | true =>
    rw [hov] at c6
    have HE := Lib.hid (show jsyncE s j = (7, s, j) by unfold jsyncE; rw [if_pos hov])
    clear hov
    go_enter Try.func15, Try.ntmps15
    go_wp2
    go_ret
    rw [HE.out]
    exact JDone.no h hi hj hB (Below.refl _ _)
  | false =>
    rw [hov] at c6
    rcases syncE_val s with hv | hv
    · have HE := Lib.hid (show jsyncE s j = (0, (syncE s).2, j) by unfold jsyncE; rw [if_neg (by rw [hov]; decide), if_pos hv])
      rw [hv] at HS
      clear hv hov
      go_enter Try.func15, Try.ntmps15
      go_wp2_with (go_at_call 34; refine HS.out.mono ?_; rintro e w1 ⟨rfl, hM1, hb1, hk1⟩)
      go_ret
      rw [HE.out]
      exact ⟨rfl, hM1, hk1.blk hj free_j, hb1, hk1.j⟩
    · have HE := Lib.hid (show jsyncE s j = (7, (syncE s).2, { j with over := true }) by unfold jsyncE; rw [if_neg (by rw [hov]; decide), if_neg (by rw [hv]; decide)])
      rw [hv] at HS
      clear hv hov
      go_enter Try.func15, Try.ntmps15
      go_wp2_with (go_at_call 34; (refine HS.out.mono ?_; rintro e w1 ⟨rfl, hM1, hb1, hk1⟩; have hj1 := hk1.blk hj free_j; have d6 : w1.cell? ⟨a, 6, none⟩ = some (.bool j.over) := hj1.cell 6; have z6 := hj1.free 6))
      go_ret
      rw [HE.out]
      exact ⟨rfl, hM1.store hj1 free_j (by decide) 6 _, hj1.set_ 6 (.bool true), hb1.setCell (p := ⟨a, 6, none⟩) ha _, hk1.j.trans (BKJ.set_ hj1 6 _)⟩
end
end Go.Proofs.Ytcgnfkiimnpdcaa
