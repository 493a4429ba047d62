/-
  The contracts of the disk's small functions.
-/
import Derived.Test.YtkjbicenhncpeaaDk
import Derived.Outline
set_option linter.unusedVariables false
namespace Go.Proofs.Ytkjbicenhncpeaa
open Go.RowKit

/-- A new disk. -/
def newDS (n : Int) : DS := ⟨min (max n 0) 65536, fun _ => none, fun _ => none, [], -1, false, 0, 0, 0⟩

/-- What New makes. -/
theorem new_disk (w : World) (m : Int) : DiskOf (((w.alloc (.map #[] 0)).alloc (.map #[] 0)).alloc (.cells #[.int .i64 m, .map (some w.heap.size), .map (some (w.heap.size + 1)), .slice none 0 0, .int .i64 (-1), .bool false, .int .i64 0, .int .i64 0, .int .i64 0] 65)) (w.heap.size + 1 + 1)
    ⟨m, fun _ => none, fun _ => none, [], -1, false, 0, 0, 0⟩ ⟨w.heap.size, w.heap.size + 1, .slice none 0 0, [], fun _ => none, fun _ => none⟩ where
  blk := by
    have h := Blk.new ((w.alloc (.map #[] 0)).alloc (.map #[] 0)) 65 #[.int .i64 m, .map (some w.heap.size), .map (some (w.heap.size + 1)), .slice none 0 0, .int .i64 (-1), .bool false, .int .i64 0, .int .i64 0, .int .i64 0]
    rw [World.size_alloc, World.size_alloc] at h
    exact h
  now := by
    refine (MapIs.new w).block ?_
    rw [Below.heap_alloc _ _ _ (by simp; omega), Below.heap_alloc _ _ _ (by simp)]
  lasts := by
    have h := MapIs.new (w.alloc (.map #[] 0))
    rw [World.size_alloc] at h
    refine h.block ?_
    rw [Below.heap_alloc _ _ _ (by simp)]
  two := by show w.heap.size ≠ w.heap.size + 1; omega
  row := World.ownsRow_nil _ _ _ _
  hnow := fun _ => .inl ⟨rfl, rfl⟩
  hlasts := fun _ => .inl ⟨rfl, rfl⟩
  pend := trivial
/-- What New answers. -/
def NewPost (n : Int) (w : World) (e : Ending) (w' : World) : Prop := ∃ g p, e = .returned (.pointer (some ⟨g, 0, none⟩)) ∧ DiskOf w' g (newDS n) p ∧ p.vp = .slice none 0 0 ∧ (∀ k, Foot g p k → w.heap.size ≤ k) ∧ Below w.heap.size w w'
theorem new_post (n m : Int) (w : World) (hm : m = min (max n 0) 65536) : NewPost n w (.returned (.pointer (some ⟨w.heap.size + 1 + 1, 0, none⟩))) (((w.alloc (.map #[] 0)).alloc (.map #[] 0)).alloc (.cells #[.int .i64 m, .map (some w.heap.size), .map (some (w.heap.size + 1)), .slice none 0 0, .int .i64 (-1), .bool false, .int .i64 0, .int .i64 0, .int .i64 0] 65)) := by
  have h := new_disk w m
  refine ⟨_, _, rfl, by rw [newDS, ← hm]; exact h, rfl, fun k hk => ?_, (((Below.refl _ _).alloc (Nat.le_refl _) _).alloc (by simp) _).alloc (by simp; omega) _⟩
  rcases hk with rfl | rfl | rfl | hk
  · omega
  · exact Nat.le_refl _
  · show w.heap.size ≤ w.heap.size + 1; omega
  · cases hk

set_option maxHeartbeats 1000000 in
theorem new_any (n : Int) (w : World) :
    Calls Try.prog 6 #[.int .i64 n] w (NewPost n w) := by
  have hmm := @run_makeMap Try.prog
  go_enter Try.func6, Try.ntmps6
  go_wp2
  all_goals
    go_ret
    exact new_post n _ w (by omega)

set_option maxHeartbeats 1000000 in
theorem down_any (g : Nat) (s : DS) (p : DP) (w : World) (h : DiskOf w g s p) :
    Calls Try.prog 15 #[.pointer (some ⟨g, 0, none⟩)] w fun e w' => e = .returned (.bool s.down) ∧ w = w' := by
  have c5 : w.cell? ⟨g, 5, none⟩ = some (.bool s.down) := h.blk.cell 5
  go_enter Try.func15, Try.ntmps15
  go_wp2
  go_ret
  exact ⟨rfl, rfl⟩
set_option maxHeartbeats 1000000 in
theorem size_any (g : Nat) (s : DS) (p : DP) (w : World) (h : DiskOf w g s p) :
    Calls Try.prog 26 #[.pointer (some ⟨g, 0, none⟩)] w fun e w' => e = .returned (.int .i64 s.size) ∧ w = w' := by
  have c0 : w.cell? ⟨g, 0, none⟩ = some (.int .i64 s.size) := h.blk.cell 0
  go_enter Try.func26, Try.ntmps26
  go_wp2
  go_ret
  exact ⟨rfl, rfl⟩

/-- The disk's cells, one of them changed. -/
theorem DiskOf.set_ {w : World} {g : Nat} {s s' : DS} {p : DP} (h : DiskOf w g s p) (i : Nat) (v : Value) (e : (dcells s p).setIfInBounds i v = dcells s' p) (h1 : s'.now = s.now) (h2 : s'.lasts = s.lasts) (h3 : s'.pend = s.pend) : DiskOf (w.setCell ⟨g, i, none⟩ v) g s' p := by
  have hg : ∀ k, k ≠ g → (w.setCell ⟨g, i, none⟩ v).heap[k]? = w.heap[k]? := fun k hk => Below.heap_setCell w ⟨g, i, none⟩ v k hk
  have hs : w.heap.size ≤ (w.setCell ⟨g, i, none⟩ v).heap.size := by simp [World.setCell]
  have hb : BK w (w.setCell ⟨g, i, none⟩ v) := fun k cur mk hk => hg k (fun x => by subst x; exact h.notByte k (.inl rfl) cur mk hk)
  have n1 : p.gn ≠ g := fun x => by
    have := h.blk
    unfold Blk at this
    rw [← x] at this
    exact h.now.notCells this
  have n2 : p.gl ≠ g := fun x => by
    have := h.blk
    unfold Blk at this
    rw [← x] at this
    exact h.lasts.notCells this
  refine ⟨e ▸ h.blk.set_ i v, h.now.block (hg _ n1), h.lasts.block (hg _ n2), h.two, ?_, by rw [h1]; exact h.hnow.keep hb hs, by rw [h2]; exact h.hlasts.keep hb hs, by rw [h3]; exact h.pend.keep hb hs⟩
  refine ⟨h.row.1, ?_⟩
  rcases h.row.2 with hr | ⟨b, cap, cur, e', hb', hh, rest⟩
  · exact .inl hr
  · refine .inr ⟨b, cap, cur, e', hb', (hg b (fun x => ?_)).trans hh, rest⟩
    subst x
    have := h.blk
    unfold Blk at this
    rw [hh] at this
    injection this with this
    injection this with _ this
    exact absurd this (by decide)

set_option maxHeartbeats 1000000 in
theorem fuse_any (g : Nat) (s : DS) (p : DP) (n : Int) (w : World) (h : DiskOf w g s p) :
    Calls Try.prog 8 #[.pointer (some ⟨g, 0, none⟩), .int .i64 n] w fun e w' => e = .returned (.tuple #[]) ∧ w' = w.setCell ⟨g, 4, none⟩ (.int .i64 (max n (-1))) := by
  have c4 : w.cell? ⟨g, 4, none⟩ = some (.int .i64 s.fuse) := h.blk.cell 4
  have z4 := h.blk.free 4
  go_enter Try.func8, Try.ntmps8
  go_wp2
  all_goals
    go_end0
    exact ⟨rfl, by congr 2; omega⟩

set_option maxHeartbeats 1000000 in
theorem add_any (g i : Nat) (x : Int) (w : World) (hc : w.cell? ⟨g, i, none⟩ = some (.int .i64 x)) (hz : w.frozen? ⟨g, i, none⟩ = false) :
    Calls Try.prog 45 #[.pointer (some ⟨g, i, none⟩), .int .i64 1] w fun e w' => e = .returned (.int .i64 (wrap64 (x + 1))) ∧ w' = w.setCell ⟨g, i, none⟩ (.int .i64 (wrap64 (x + 1))) := by
  have ha := run_call_add (P := Try.prog) Try.func51 (by kernel_rfl) (by kernel_rfl) (by kernel_rfl) .i64 (by kernel_rfl) (y := 1) (s := wrap64 (x + 1)) hc hz (by simp [go_sem, wrap64, IntKind.wrap_i64])
  go_enter Try.func45, Try.ntmps45
  go_wp2
  go_ret
  exact ⟨rfl, rfl⟩

/-- What burn makes of a disk, and answers. -/
def burnS (s : DS) : DS := if s.fuse = 0 then { s with down := true } else if 0 < s.fuse then { s with fuse := s.fuse - 1 } else s
def burnB (s : DS) : Bool := decide (s.fuse ≠ 0)
set_option maxHeartbeats 1000000 in
theorem burn_any (g : Nat) (s : DS) (p : DP) (w : World) (h : DiskOf w g s p) (hf : s.fuse ≤ 9223372036854775807) :
    Calls Try.prog 48 #[.pointer (some ⟨g, 0, none⟩)] w fun e w' => e = .returned (.bool (burnB s)) ∧ DiskOf w' g (burnS s) p ∧ Chg w w' (fun k => k = g) := by
  have c4 : w.cell? ⟨g, 4, none⟩ = some (.int .i64 s.fuse) := h.blk.cell 4
  have z4 := h.blk.free 4
  have c5 : w.cell? ⟨g, 5, none⟩ = some (.bool s.down) := h.blk.cell 5
  have z5 := h.blk.free 5
  by_cases h0 : s.fuse = 0
  · have hb : (s.fuse == 0) = true := by simpa using h0
    have e1 : burnB s = false := by simp [burnB, h0]
    have e2 : burnS s = { s with down := true } := by simp [burnS, h0]
    have E1 := Lib.hid e1; have E2 := Lib.hid e2; clear e1 e2 h0
    go_enter Try.func48, Try.ntmps48
    go_wp2
    go_ret
    exact ⟨ret_bool E1.out.symm, by rw [E2.out]; exact h.set_ 5 _ rfl rfl rfl rfl, Chg.setCell _ _ _⟩
  · have hb : (s.fuse == 0) = false := by simpa using h0
    have e1 : burnB s = true := by simp [burnB, h0]
    have E1 := Lib.hid e1; clear e1
    by_cases h1 : 0 < s.fuse
    · have e2 : burnS s = { s with fuse := s.fuse - 1 } := by simp [burnS, h0, h1]
      have E2 := Lib.hid e2; clear e2 h0
      go_enter Try.func48, Try.ntmps48
      go_wp2
      go_ret
      exact ⟨ret_bool E1.out.symm, by rw [E2.out]; exact h.set_ 4 _ rfl rfl rfl rfl, Chg.setCell _ _ _⟩
    · have e2 : burnS s = s := by simp [burnS, h0, h1]
      have E2 := Lib.hid e2; clear e2 h0
      go_enter Try.func48, Try.ntmps48
      go_wp2
      go_ret
      exact ⟨ret_bool E1.out.symm, by rw [E2.out]; exact h, Chg.refl _ _⟩

/-- What slices.Clone makes of bytes: a row of its own. -/
def ClonePost (l : List Int) (w : World) (e : Ending) (w' : World) : Prop := ∃ v, e = .returned v ∧ Own w' w.heap.size v l ∧ Below w.heap.size w w'
set_option maxHeartbeats 1000000 in
theorem clone_any (A : Option Addr) (l : List Int) (c : Nat) (w : World) (hc : Cells w w.heap.size A (U8 l)) (hl : l.length ≤ 100000000) :
    Calls Try.prog 31 #[.slice A l.length c] w (ClonePost l w) := by
  have hnil := fun (a : Option Addr) (n c : Nat) (w : World) => Lib.run_eql_slice_nil (P := Try.prog) w 37 5 a n c 0 0 Try.underlying37
  rcases A with _ | ad
  · have hl0 : l = [] := by
      rcases l with _ | ⟨y, ys⟩
      · rfl
      · obtain ⟨b, off, e, _⟩ := hc 0 (.int .u8 y) rfl
        cases e
    subst hl0
    go_enter Try.func31, Try.ntmps31
    go_wp2
    go_ret
    exact ⟨_, rfl, Own.nil _ _, Below.refl _ _⟩
  · go_enter Try.func31, Try.ntmps31
    go_wp2_with (first | (at_builtin; refine app_any rfl (.tmp 5) (.tmp 6) rfl w.heap.size _ [] rfl (by exact own_row w w.heap.size [] (Nat.le_refl _) (by simp)) (w.heap.size) (some ad) c l rfl (by exact hc.alloc (Nat.le_refl _) _) (by simp; omega) (by simp) ?_; intro v1 w1 hown1 hg1))
    go_ret
    exact ⟨v1, rfl, own_as hown1 (by simp), ((Below.refl _ _).alloc (Nat.le_refl _) _).trans (hg1.below (own_row w w.heap.size [] (Nat.le_refl _) (by simp)) (by simp))⟩
end Go.Proofs.Ytkjbicenhncpeaa
