/-
  The reference's disk in memory, and its small functions.
-/
import Derived.Test.YtobdbkhjdhnooaaDx
import Derived.RegionTactic
set_option linter.unusedVariables false
namespace Go.Proofs.Ytobdbkhjdhnooaa
open Go.RowKit

/-- The state of a reference's disk. -/
structure RS where
  size : Int
  all : List (Int × List Int)
  lasts : Nat
  fuse : Int
  no : Bool
  a0 : Int
  a1 : Int
  a2 : Int
def rcells (r : RS) (vp : Value) : Array Value := #[.int .i64 r.size, vp, .int .i64 r.lasts, .int .i64 r.fuse, .bool r.no, .int .i64 r.a0, .int .i64 r.a1, .int .i64 r.a2]
structure RefOf (w : World) (B g : Nat) (r : RS) (vp : Value) (ps : List (Int × Value)) : Prop where
  blk : Blk w g 58 (rcells r vp)
  base : B ≤ g
  row : w.ownsRow B 84 2 vp ps.length (flat ps)
  pend : Pend w ps r.all
def RefAt (w : World) (B g : Nat) (r : RS) : Prop := ∃ vp ps, RefOf w B g r vp ps
/-- Only blocks of a reference's disks have changed. -/
def RB (w : World) (k : Nat) : Prop := ∃ cur t mk, w.heap[k]? = some (Obj.cells cur t mk) ∧ (t = 58 ∨ t = 84)
def KR (w w' : World) : Prop := Chg w w' (RB w)
theorem free_rd : Free 58 := ⟨by decide, by decide⟩
theorem free_rw : Free 84 := ⟨by decide, by decide⟩
theorem RB.free {w : World} {k : Nat} (h : RB w k) : ∃ cur t mk, Free t ∧ t ≠ 5 ∧ w.heap[k]? = some (Obj.cells cur t mk) := by
  obtain ⟨cur, t, mk, hh, e⟩ := h
  rcases e with rfl | rfl
  · exact ⟨cur, _, mk, free_rd, by decide, hh⟩
  · exact ⟨cur, _, mk, free_rw, by decide, hh⟩
theorem KR.bk {w w' : World} (h : KR w w') : BK w w' := fun k cur mk hk => h.block k (by
  rcases Nat.lt_or_ge k w.heap.size with h | h
  · exact h
  · rw [Array.getElem?_eq_none h] at hk; cases hk) (fun hr => by
  obtain ⟨cur', t, mk', _, h8, hh⟩ := hr.free
  rw [hk] at hh
  injection hh with hh
  injection hh with _ hh
  exact h8 hh.symm)
theorem KR.refl (w : World) : KR w w := Chg.refl _ _
theorem KR.of_below {w w' : World} (h : Below w.heap.size w w') : KR w w' := Chg.of_below h _
theorem Many.keepR {B : Nat} {w w' : World} {L : List (Nat × DS)} (h : Many B w L) (hk : KR w w') : Many B w' L := by
  obtain ⟨F, h1, h2⟩ := h
  refine ⟨F, fun j g s e => ⟨(h1 j g s e).1.chg hk (fun k hF hr => ?_) (fun k cur mk hr hh => ?_), (h1 j g s e).2⟩, h2⟩
  · obtain ⟨cur, t, mk, ht, _, hh⟩ := hr.free
    exact (h1 j g s e).1.notT k cur t mk ht hF hh
  · obtain ⟨cur', t, mk', _, h8, hh'⟩ := hr.free
    rw [hh] at hh'
    injection hh' with hh'
    injection hh' with _ hh'
    exact h8 hh'.symm
theorem RefOf.keep {w w' : World} {B g : Nat} {r : RS} {vp : Value} {ps : List (Int × Value)} (h : RefOf w B g r vp ps) (hk : BKA w w') (hs : w.heap.size ≤ w'.heap.size) : RefOf w' B g r vp ps where
  blk := hk.blk h.blk free_rd
  base := h.base
  row := by
    refine ⟨h.row.1, ?_⟩
    rcases h.row.2 with h1 | ⟨b, cap, cur, e, hb, hh, rest⟩
    · exact .inl h1
    · exact .inr ⟨b, cap, cur, e, hb, (hk b cur _ _ free_rw hh).trans hh, rest⟩
  pend := h.pend.keep hk.b hs
theorem RefAt.keep {w w' : World} {B g : Nat} {r : RS} (h : RefAt w B g r) (hk : BKA w w') (hs : w.heap.size ≤ w'.heap.size) : RefAt w' B g r := by
  obtain ⟨vp, ps, h⟩ := h
  exact ⟨vp, ps, h.keep hk hs⟩
theorem RefOf.ne {w : World} {B g : Nat} {r : RS} {vp : Value} {ps : List (Int × Value)} (h : RefOf w B g r vp ps) : vp.ownBlock ≠ some g := fun e => by
  obtain ⟨cur, hh⟩ := row_block h.row e
  have := h.blk
  unfold Blk at this
  rw [hh] at this
  injection this with this
  injection this with _ this
  exact absurd this (by decide)
/-- One of the cells is stored anew. -/
theorem RefOf.set_ {w : World} {B g : Nat} {r r' : RS} {vp : Value} {ps : List (Int × Value)} (h : RefOf w B g r vp ps) (i : Nat) (v : Value) (e : (rcells r vp).setIfInBounds i v = rcells r' vp) (h1 : r'.all = r.all) : RefOf (w.setCell ⟨g, i, none⟩ v) B g r' vp ps := by
  have hg : ∀ k, k ≠ g → (w.setCell ⟨g, i, none⟩ v).heap[k]? = w.heap[k]? := fun k hk => Below.heap_setCell w ⟨g, i, none⟩ v k hk
  have hs : w.heap.size ≤ (w.setCell ⟨g, i, none⟩ v).heap.size := by simp [World.setCell]
  have hb : BK w (w.setCell ⟨g, i, none⟩ v) := fun k cur mk hk => hg k (fun x => by
    subst x
    have := h.blk
    unfold Blk at this
    rw [hk] at this
    injection this with this
    injection this with _ this
    exact absurd this (by decide))
  refine ⟨e ▸ h.blk.set_ i v, h.base, ⟨h.row.1, ?_⟩, by rw [h1]; exact h.pend.keep hb hs⟩
  rcases h.row.2 with hr | ⟨b, cap, cur, e', hb', hh, rest⟩
  · exact .inl hr
  · exact .inr ⟨b, cap, cur, e', hb', (hg b (fun x => h.ne (by rw [e', x]; rfl))).trans hh, rest⟩
theorem RefOf.kr {w : World} {B g : Nat} {r : RS} {vp : Value} {ps : List (Int × Value)} (h : RefOf w B g r vp ps) (i : Nat) (v : Value) : KR w (w.setCell ⟨g, i, none⟩ v) :=
  (Chg.setCell w ⟨g, i, none⟩ v).mono fun k _ hk => by
    have hk : k = g := hk
    subst hk
    exact ⟨_, _, _, h.blk, .inl rfl⟩
theorem RefAt.mono {w : World} {B B' g : Nat} {r : RS} (h : RefAt w B g r) (hB : B' ≤ B) : RefAt w B' g r := by
  obtain ⟨vp, ps, h⟩ := h
  refine ⟨vp, ps, h.blk, Nat.le_trans hB h.base, ⟨h.row.1, ?_⟩, h.pend⟩
  rcases h.row.2 with h1 | ⟨b, cap, cur, e, hb, rest⟩
  · exact .inl h1
  · exact .inr ⟨b, cap, cur, e, Nat.le_trans hB hb, rest⟩

/-- What New makes. -/
def newR (n : Int) : RS := ⟨min (max n 0) 65536, [], 0, -1, false, 0, 0, 0⟩
theorem new_ref (n m : Int) (w : World) (hm : m = min (max n 0) 65536) : RefAt (w.alloc (.cells #[.int .i64 m, .slice none 0 0, .int .i64 0, .int .i64 (-1), .bool false, .int .i64 0, .int .i64 0, .int .i64 0] 58)) w.heap.size w.heap.size (newR n) := by
  subst hm
  exact ⟨.slice none 0 0, [], Blk.new w _ _, Nat.le_refl _, World.ownsRow_nil _ _ _ _, trivial⟩
set_option maxHeartbeats 1000000 in
theorem rnew_any (n : Int) (w : World) :
    Calls Try.prog 19 #[.int .i64 n] w fun e w' => ∃ g, e = .returned (.pointer (some ⟨g, 0, none⟩)) ∧ RefAt w' w.heap.size g (newR n) ∧ Below w.heap.size w w' := by
  go_enter Try.func19, Try.ntmps19
  go_wp2
  all_goals
    go_ret
    exact ⟨_, rfl, new_ref n _ w (by omega), (Below.refl _ _).alloc (Nat.le_refl _) _⟩

set_option maxHeartbeats 1000000 in
theorem rpending_any (B g : Nat) (r : RS) (w : World) (h : RefAt w B g r) (h1 : r.lasts ≤ r.all.length) (h2 : r.all.length ≤ 1000000000) :
    Calls Try.prog 25 #[.pointer (some ⟨g, 0, none⟩)] w fun e w' => e = .returned (.int .i64 (r.all.length - r.lasts : Nat)) ∧ KR w w' ∧ Below B w w' ∧ RefAt w' B g r := by
  have hh := h
  obtain ⟨vp, ps, h⟩ := h
  obtain ⟨A, c, e, _⟩ := ownsRow_shape h.row
  have hp := h.pend.len
  have c1 : w.cell? ⟨g, 1, none⟩ = some (.slice A r.all.length c) := by
    have : w.cell? ⟨g, 1, none⟩ = some vp := h.blk.cell 1
    rw [this, e, hp]
  have c2 : w.cell? ⟨g, 2, none⟩ = some (.int .i64 r.lasts) := h.blk.cell 2
  have HE := Lib.hid e
  clear e hp
  go_enter Try.func25, Try.ntmps25
  have hwr : IntKind.i64.wrap ((r.all.length : Int) - (r.lasts : Int)) = ((r.all.length - r.lasts : Nat) : Int) := by rw [IntKind.wrap_i64]; omega
  go_wp2
  go_region
  all_goals
    go_wp2
    go_ret
    exact ⟨rfl, KR.of_below (Below.refl _ _).drew, (Below.refl _ _).drew, hh.keep (BKA.of_below (Below.refl _ _).drew) (Nat.le_refl _)⟩

/-- What burn makes of it, and answers. -/
def rburnS (r : RS) : RS := if r.fuse = 0 then { r with no := true } else if 0 < r.fuse then { r with fuse := r.fuse - 1 } else r
def rburnB (r : RS) : Bool := decide (r.fuse ≠ 0)
theorem below_set {w : World} {B g : Nat} (h : B ≤ g) (i : Nat) (v : Value) : Below B w (w.setCell ⟨g, i, none⟩ v) := (Below.refl B w).setCell (p := ⟨g, i, none⟩) h v
set_option maxHeartbeats 1000000 in
theorem rburn_any (B g : Nat) (r : RS) (w : World) (h : RefAt w B g r) (hf : r.fuse ≤ 9223372036854775807) :
    Calls Try.prog 36 #[.pointer (some ⟨g, 0, none⟩)] w fun e w' => e = .returned (.bool (rburnB r)) ∧ RefAt w' B g (rburnS r) ∧ KR w w' ∧ Below B w w' := by
  have hh := h
  obtain ⟨vp, ps, h⟩ := h
  have c3 : w.cell? ⟨g, 3, none⟩ = some (.int .i64 r.fuse) := h.blk.cell 3
  have z3 := h.blk.free 3
  have c4 : w.cell? ⟨g, 4, none⟩ = some (.bool r.no) := h.blk.cell 4
  have z4 := h.blk.free 4
  by_cases h0 : r.fuse = 0
  · have hb : (r.fuse == 0) = true := by simpa using h0
    have e1 : rburnB r = false := by simp [rburnB, h0]
    have e2 : rburnS r = { r with no := true } := by simp [rburnS, h0]
    have E1 := Lib.hid e1; have E2 := Lib.hid e2; clear e1 e2 h0
    go_enter Try.func36, Try.ntmps36
    go_wp2
    go_ret
    exact ⟨ret_bool E1.out.symm, by rw [E2.out]; exact ⟨vp, ps, h.set_ 4 _ rfl rfl⟩, h.kr _ _, below_set h.base _ _⟩
  · have hb : (r.fuse == 0) = false := by simpa using h0
    have e1 : rburnB r = true := by simp [rburnB, h0]
    have E1 := Lib.hid e1; clear e1
    by_cases h1 : 0 < r.fuse
    · have e2 : rburnS r = { r with fuse := r.fuse - 1 } := by simp [rburnS, h0, h1]
      have E2 := Lib.hid e2; clear e2 h0
      go_enter Try.func36, Try.ntmps36
      go_wp2
      go_ret
      exact ⟨ret_bool E1.out.symm, by rw [E2.out]; exact ⟨vp, ps, h.set_ 3 _ rfl rfl⟩, h.kr _ _, below_set h.base _ _⟩
    · have e2 : rburnS r = r := by simp [rburnS, h0, h1]
      have E2 := Lib.hid e2; clear e2 h0
      go_enter Try.func36, Try.ntmps36
      go_wp2
      go_ret
      exact ⟨ret_bool E1.out.symm, by rw [E2.out]; exact hh, KR.refl _, Below.refl _ _⟩
end Go.Proofs.Ytobdbkhjdhnooaa
