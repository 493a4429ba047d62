/-
  The disk's functions, in one form: what they answer, and the state behind them. And those of no disk.
-/
import Derived.Test.YtkjbicenhncpeaaDe
set_option linter.unusedVariables false
namespace Go.Proofs.Ytkjbicenhncpeaa
open Go.RowKit

/-- The disk at g is in the state s' now, and nothing but its own blocks F has changed. -/
def OnD (g : Nat) (w : World) (F : Nat → Prop) (s' : DS) (w' : World) : Prop := ∃ F', DiskAt w' g s' F' ∧ Chg w w' F ∧ ∀ k, F' k → F k ∨ w.heap.size ≤ k
theorem OnD.same {g : Nat} {w : World} {F : Nat → Prop} {s : DS} (h : DiskAt w g s F) : OnD g w F s w := ⟨F, h, Chg.refl _ _, fun k hk => .inl hk⟩
theorem OnD.mk' {g : Nat} {w w' : World} {F : Nat → Prop} {s s' : DS} {p p' : DP} (hF : ∀ k, F k ↔ Foot g p k) (h : DiskOf w' g s' p') (hc : Chg w w' (Foot g p)) (hf : ∀ k, Foot g p' k → Foot g p k ∨ w.heap.size ≤ k) : OnD g w F s' w' :=
  ⟨Foot g p', ⟨p', h, fun _ => Iff.rfl⟩, hc.mono fun i _ hi => (hF i).2 hi, fun k hk => (hf k hk).imp_left (hF k).2⟩
theorem OnD.one {g : Nat} {w w' : World} {F : Nat → Prop} {s s' : DS} {p : DP} (hF : ∀ k, F k ↔ Foot g p k) (h : DiskOf w' g s' p) (hc : Chg w w' (fun k => k = g)) : OnD g w F s' w' :=
  OnD.mk' (s := s') hF h (hc.mono fun i _ hi => .inl hi) fun k hk => .inl hk

/-- What is answered to a write, and the state behind it. -/
def writeE (s : DS) (n : Int) (l : List Int) : Int × DS :=
  if s.down = true then (7, s) else if n < 0 ∨ s.size ≤ n ∨ l.length ≠ 256 then (1, s) else if s.fuse = 0 then (7, burnS s) else (0, wroteS (burnS s) n l)
def readE (s : DS) (n : Int) : Int × DS :=
  if s.down = true then (7, s) else if n < 0 ∨ s.size ≤ n then (1, s) else (0, { s with a0 := wrap64 (s.a0 + 1) })
/-- What is read: nothing, or a sector. -/
def readL (s : DS) (n : Int) : List Int := if (readE s n).1 = 0 then rd s n else []
def syncE (s : DS) : Int × DS := if s.down = true then (7, s) else if s.fuse = 0 then (7, burnS s) else (0, syncedS (burnS s))

theorem write_w (g : Nat) (s : DS) (F : Nat → Prop) (n : Int) (A : Option Addr) (l : List Int) (c : Nat) (w : World) (h : DiskAt w g s F) (hf : s.fuse ≤ 9223372036854775807) (hc : Bytes w A l) (ho : Oct l) (hp : s.pend.length ≤ 1000000000) (hl : l.length ≤ 9223372036854775807) :
    Calls Try.prog 46 #[.pointer (some ⟨g, 0, none⟩), .int .i64 n, .slice A l.length c] w fun e w' => e = .returned (.int .i64 (writeE s n l).1) ∧ OnD g w F (writeE s n l).2 w' := by
  obtain ⟨p, h, hF⟩ := h
  refine (write_any g s p n A l c w h hf hc ho hp hl).mono fun e w' hw => ?_
  unfold WriteD at hw
  unfold writeE
  split at hw
  · rename_i h1
    rw [if_pos h1]
    obtain ⟨rfl, rfl⟩ := hw
    exact ⟨rfl, OnD.same ⟨p, h, hF⟩⟩
  · rename_i h1
    rw [if_neg h1]
    split at hw
    · rename_i h2
      rw [if_pos h2]
      obtain ⟨rfl, rfl⟩ := hw
      exact ⟨rfl, OnD.same ⟨p, h, hF⟩⟩
    · rename_i h2
      rw [if_neg h2]
      split at hw
      · rename_i h3
        rw [if_pos h3]
        obtain ⟨rfl, h4, h5⟩ := hw
        exact ⟨rfl, OnD.one (s := s) hF h4 h5⟩
      · rename_i h3
        rw [if_neg h3]
        obtain ⟨p', rfl, h4, h5, e1, e2, h6⟩ := hw
        refine ⟨rfl, OnD.mk' (s := s) hF h4 h5 fun k hk => ?_⟩
        rcases hk with rfl | rfl | rfl | hk
        · exact .inl (.inl rfl)
        · exact .inl (.inr (.inl e1))
        · exact .inl (.inr (.inr (.inl e2)))
        · rcases h6 with h6 | h6
          · exact .inl (.inr (.inr (.inr (h6 ▸ hk))))
          · exact .inr (h6 k hk)

theorem read_w (g : Nat) (s : DS) (F : Nat → Prop) (n : Int) (w : World) (h : DiskAt w g s F) :
    Calls Try.prog 33 #[.pointer (some ⟨g, 0, none⟩), .int .i64 n] w fun e w' => ∃ v, e = .returned (.tuple #[v, .int .i64 (readE s n).1]) ∧ Own w' w.heap.size v (readL s n) ∧ OnD g w F (readE s n).2 w' := by
  obtain ⟨p, h, hF⟩ := h
  refine (read_any g s p n w h).mono fun e w' hw => ?_
  unfold ReadD at hw
  unfold readL readE
  split at hw
  · rename_i h1
    rw [if_pos h1]
    obtain ⟨rfl, rfl⟩ := hw
    exact ⟨_, rfl, Own.nil _ _, OnD.same ⟨p, h, hF⟩⟩
  · rename_i h1
    rw [if_neg h1]
    split at hw
    · rename_i h2
      rw [if_pos h2]
      obtain ⟨rfl, rfl⟩ := hw
      exact ⟨_, rfl, Own.nil _ _, OnD.same ⟨p, h, hF⟩⟩
    · rename_i h2
      rw [if_neg h2]
      obtain ⟨v, rfl, h3, h4, h5⟩ := hw
      exact ⟨v, rfl, h3, OnD.one (s := s) hF h4 h5⟩

theorem sync_w (g : Nat) (s : DS) (F : Nat → Prop) (w : World) (h : DiskAt w g s F) (hf : s.fuse ≤ 9223372036854775807) (hp : s.pend.length ≤ 1000000000) :
    Calls Try.prog 40 #[.pointer (some ⟨g, 0, none⟩)] w fun e w' => e = .returned (.int .i64 (syncE s).1) ∧ OnD g w F (syncE s).2 w' := by
  obtain ⟨p, h, hF⟩ := h
  refine (sync_any g s p w h hf hp).mono fun e w' hw => ?_
  unfold SyncD at hw
  unfold syncE
  split at hw
  · rename_i h1
    rw [if_pos h1]
    obtain ⟨rfl, rfl⟩ := hw
    exact ⟨rfl, OnD.same ⟨p, h, hF⟩⟩
  · rename_i h1
    rw [if_neg h1]
    split at hw
    · rename_i h3
      rw [if_pos h3]
      obtain ⟨rfl, h4, h5⟩ := hw
      exact ⟨rfl, OnD.one (s := s) hF h4 h5⟩
    · rename_i h3
      rw [if_neg h3]
      obtain ⟨p', rfl, h4, h5, e1, e2, h6⟩ := hw
      refine ⟨rfl, OnD.mk' (s := s) hF h4 h5 fun k hk => ?_⟩
      rcases hk with rfl | rfl | rfl | hk
      · exact .inl (.inl rfl)
      · exact .inl (.inr (.inl e1))
      · exact .inl (.inr (.inr (.inl e2)))
      · rw [h6] at hk; cases hk

theorem fuse_w (g : Nat) (s : DS) (F : Nat → Prop) (n : Int) (w : World) (h : DiskAt w g s F) :
    Calls Try.prog 8 #[.pointer (some ⟨g, 0, none⟩), .int .i64 n] w fun e w' => e = .returned (.tuple #[]) ∧ OnD g w F { s with fuse := max n (-1) } w' := by
  obtain ⟨p, h, hF⟩ := h
  refine (fuse_any g s p n w h).mono ?_
  rintro e w' ⟨rfl, rfl⟩
  exact ⟨rfl, OnD.one (s := s) hF (h.set_ 4 _ rfl rfl rfl rfl) (Chg.setCell w ⟨g, 4, none⟩ _)⟩
theorem down_w (g : Nat) (s : DS) (F : Nat → Prop) (w : World) (h : DiskAt w g s F) :
    Calls Try.prog 15 #[.pointer (some ⟨g, 0, none⟩)] w fun e w' => e = .returned (.bool s.down) ∧ w = w' := by
  obtain ⟨p, h, hF⟩ := h; exact down_any g s p w h
theorem size_w (g : Nat) (s : DS) (F : Nat → Prop) (w : World) (h : DiskAt w g s F) :
    Calls Try.prog 26 #[.pointer (some ⟨g, 0, none⟩)] w fun e w' => e = .returned (.int .i64 s.size) ∧ w = w' := by
  obtain ⟨p, h, hF⟩ := h; exact size_any g s p w h
/-- What New and Cut answer: a disk of its own. -/
def MadeD (s : DS) (w : World) (e : Ending) (w' : World) : Prop :=
  ∃ g F, e = .returned (.pointer (some ⟨g, 0, none⟩)) ∧ DiskAt w' g s F ∧ (∀ k, F k → w.heap.size ≤ k) ∧ Below w.heap.size w w'
theorem new_w (n : Int) (w : World) : Calls Try.prog 6 #[.int .i64 n] w (MadeD (newDS n) w) := by
  refine (new_any n w).mono ?_
  rintro e w' ⟨g, p, rfl, h, _, hF, hB⟩
  exact ⟨g, Foot g p, rfl, ⟨p, h, fun _ => Iff.rfl⟩, hF, hB⟩
set_option maxHeartbeats 1000000 in
theorem down_nil (w : World) : Calls Try.prog 15 #[.pointer none] w fun e w' => e = .returned (.bool true) ∧ w = w' := by
  go_enter Try.func15, Try.ntmps15
  go_wp2
  go_ret
  exact ⟨rfl, rfl⟩
set_option maxHeartbeats 1000000 in
theorem size_nil (w : World) : Calls Try.prog 26 #[.pointer none] w fun e w' => e = .returned (.int .i64 0) ∧ w = w' := by
  go_enter Try.func26, Try.ntmps26
  go_wp2
  go_ret
  exact ⟨rfl, rfl⟩
set_option maxHeartbeats 1000000 in
theorem fuse_nil (n : Int) (w : World) : Calls Try.prog 8 #[.pointer none, .int .i64 n] w fun e w' => e = .returned (.tuple #[]) ∧ w = w' := by
  go_enter Try.func8, Try.ntmps8
  go_wp2
  go_end0
  exact ⟨rfl, rfl⟩
set_option maxHeartbeats 1000000 in
theorem read_nil (n : Int) (w : World) : Calls Try.prog 33 #[.pointer none, .int .i64 n] w fun e w' => e = .returned (.tuple #[.slice none 0 0, .int .i64 7]) ∧ w = w' := by
  go_enter Try.func33, Try.ntmps33
  go_wp2_with fail
  refine (down_nil w).mono ?_
  rintro e w1 ⟨rfl, rfl⟩
  go_wp2
  go_ret2
  exact ⟨rfl, rfl⟩
set_option maxHeartbeats 1000000 in
theorem write_nil (n : Int) (v : Value) (w : World) : Calls Try.prog 46 #[.pointer none, .int .i64 n, v] w fun e w' => e = .returned (.int .i64 7) ∧ w = w' := by
  go_enter Try.func46, Try.ntmps46
  go_wp2_with fail
  refine (down_nil w).mono ?_
  rintro e w1 ⟨rfl, rfl⟩
  go_wp2
  go_ret
  exact ⟨rfl, rfl⟩
set_option maxHeartbeats 1000000 in
theorem sync_nil (w : World) : Calls Try.prog 40 #[.pointer none] w fun e w' => e = .returned (.int .i64 7) ∧ w = w' := by
  go_enter Try.func40, Try.ntmps40
  go_wp2_with fail
  refine (down_nil w).mono ?_
  rintro e w1 ⟨rfl, rfl⟩
  go_wp2
  go_ret
  exact ⟨rfl, rfl⟩
end Go.Proofs.Ytkjbicenhncpeaa
