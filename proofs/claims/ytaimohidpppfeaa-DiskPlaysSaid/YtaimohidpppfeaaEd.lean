/-
  act: one act on both disks.
-/
import Derived.Test.YtaimohidpppfeaaEc
import Derived.Test.YtaimohidpppfeaaDr
import Derived.Test.YtaimohidpppfeaaSm
import Derived.Deep.RegionHeld3
import Derived.StillTailTactics
import Derived.Deep.OwnRows
set_option linter.unusedVariables false
namespace Go.Proofs.Ytaimohidpppfeaa
open Go.RowKit

/-- Both disks in step, and within bounds: at most k writes so far. -/
structure St (k : Nat) (s : DS) (r : RS) : Prop where
  sim : Sim s r
  sz0 : 0 ≤ s.size
  sz1 : s.size ≤ 65536
  fu : s.fuse ≤ 9223372036854775807
  len : r.all.length ≤ k
theorem burnS_fuse (s : DS) (h : s.fuse ≤ 9223372036854775807) : (burnS s).fuse ≤ 9223372036854775807 ∧ (burnS s).size = s.size := by
  unfold burnS
  split
  · exact ⟨h, rfl⟩
  · split
    · exact ⟨by show s.fuse - 1 ≤ _; omega, rfl⟩
    · exact ⟨h, rfl⟩
theorem rburnS_all (r : RS) : (rburnS r).all = r.all := by
  unfold rburnS
  split
  · rfl
  · split <;> rfl
theorem St.mono {k k' : Nat} {s : DS} {r : RS} (h : St k s r) (hk : k ≤ k') : St k' s r := ⟨h.sim, h.sz0, h.sz1, h.fu, Nat.le_trans h.len hk⟩
theorem St.pend {k : Nat} {s : DS} {r : RS} (h : St k s r) : s.pend.length ≤ k := by
  have := h.sim.pending
  have := h.len
  omega
theorem St.rfu {k : Nat} {s : DS} {r : RS} (h : St k s r) : r.fuse ≤ 9223372036854775807 := by rw [h.sim.fuse]; exact h.fu
theorem St.write {k : Nat} {s : DS} {r : RS} (h : St k s r) (n : Int) (l : List Int) : (rwriteE r n l).1 = (writeE s n l).1 ∧ St (k + 1) (writeE s n l).2 (rwriteE r n l).2 := by
  obtain ⟨h1, h2⟩ := h.sim.write n l
  have hb := burnS_fuse s h.fu
  refine ⟨h1, h2, ?_, ?_, ?_, ?_⟩
  · unfold writeE; repeat' split
    all_goals first | exact h.sz0 | (show 0 ≤ (burnS s).size; rw [hb.2]; exact h.sz0)
  · unfold writeE; repeat' split
    all_goals first | exact h.sz1 | (show (burnS s).size ≤ _; rw [hb.2]; exact h.sz1)
  · unfold writeE; repeat' split
    all_goals first | exact h.fu | exact hb.1
  · have := h.len
    unfold rwriteE; repeat' split
    all_goals first | (show r.all.length ≤ _; omega) | (show (rburnS r).all.length ≤ _; rw [rburnS_all]; omega) | (show ((rburnS r).all ++ [(n, l)]).length ≤ _; rw [rburnS_all, List.length_append]; simp; omega)
theorem St.read {k : Nat} {s : DS} {r : RS} (h : St k s r) (n : Int) : (rreadE r n).1 = (readE s n).1 ∧ St (k + 1) (readE s n).2 (rreadE r n).2 ∧ rreadL r n = readL s n := by
  obtain ⟨h1, h2, h3⟩ := h.sim.read n
  refine ⟨h1, ⟨h2, ?_, ?_, ?_, ?_⟩, h3⟩
  · unfold readE; repeat' split
    all_goals exact h.sz0
  · unfold readE; repeat' split
    all_goals exact h.sz1
  · unfold readE; repeat' split
    all_goals exact h.fu
  · have := h.len
    unfold rreadE; repeat' split
    all_goals (show r.all.length ≤ _; omega)
theorem St.sync {k : Nat} {s : DS} {r : RS} (h : St k s r) : (rsyncE r).1 = (syncE s).1 ∧ St (k + 1) (syncE s).2 (rsyncE r).2 := by
  obtain ⟨h1, h2⟩ := h.sim.sync
  have hb := burnS_fuse s h.fu
  refine ⟨h1, h2, ?_, ?_, ?_, ?_⟩
  · unfold syncE; repeat' split
    all_goals first | exact h.sz0 | (show 0 ≤ (burnS s).size; rw [hb.2]; exact h.sz0)
  · unfold syncE; repeat' split
    all_goals first | exact h.sz1 | (show (burnS s).size ≤ _; rw [hb.2]; exact h.sz1)
  · unfold syncE; repeat' split
    all_goals first | exact h.fu | exact hb.1
  · have := h.len
    unfold rsyncE; repeat' split
    all_goals first | (show r.all.length ≤ _; omega) | (show (rburnS r).all.length ≤ _; rw [rburnS_all]; omega)
theorem St.fuse {k : Nat} {s : DS} {r : RS} (h : St k s r) (n : Int) (hn : n ≤ 9223372036854775807) : St (k + 1) { s with fuse := max n (-1) } { r with fuse := max n (-1) } :=
  ⟨h.sim.setFuse _, h.sz0, h.sz1, by show max n (-1) ≤ _; omega, by have := h.len; show r.all.length ≤ _; omega⟩
theorem St.cut {k : Nat} {s : DS} {r : RS} (h : St k s r) (keep : List Bool) : St (k + 1) (cutS s keep) (rcutS r keep) := by
  refine ⟨h.sim.cut keep h.sz0 h.sz1, h.sz0, h.sz1, by show (-1 : Int) ≤ _; decide, ?_⟩
  have := h.len
  have h2 := rk_len r keep r.all.length
  rw [rk_all r keep h.sim.le] at h2
  show (rkept r keep).length ≤ _
  omega

/-- What act answers: both disks again, in step. -/
def ActP (B k : Nat) (w : World) (e : Ending) (w' : World) : Prop :=
  ∃ g' s' gr' r', e = .returned (.tuple #[.pointer (some ⟨g', 0, none⟩), .pointer (some ⟨gr', 0, none⟩), .bool true]) ∧ Many B w' [(g', s')] ∧ RefAt w' B gr' r' ∧ St (k + 1) s' r' ∧ Below B w w'
theorem KR.blk {w w' : World} (h : KR w w') {g : Nat} {t : TypeId} {cs : Array Value} (hb : Blk w g t cs) (h1 : t ≠ 53) (h2 : t ≠ 78) : Blk w' g t cs := by
  refine (h.block g hb.lt fun hr => ?_).trans hb
  obtain ⟨cur, t', mk, hh, e⟩ := hr
  unfold Blk at hb
  rw [hb] at hh
  injection hh with hh
  injection hh with _ hh
  rcases e with e | e
  · exact h1 (hh.trans e)
  · exact h2 (hh.trans e)
theorem free_op : Free 32 := ⟨by decide, by decide⟩
theorem RefAt.drew {w : World} {B g : Nat} {r : RS} (h : RefAt w B g r) : RefAt w.drew B g r := h.keep (BKA.of_below (Below.refl _ _).drew) (Nat.le_refl _)
theorem RefAt.below {w w' : World} {B g : Nat} {r : RS} (h : RefAt w B g r) (hb : Below w.heap.size w w') : RefAt w' B g r := h.keep (BKA.of_below hb) hb.size
/-- Both answer a write alike. -/
theorem both_write {k : Nat} {s : DS} {r : RS} (h : St k s r) (n : Int) (l : List Int) : ∃ x s' r', writeE s n l = (x, s') ∧ rwriteE r n l = (x, r') ∧ St (k + 1) s' r' := by
  obtain ⟨h1, h2⟩ := h.write n l
  exact ⟨(writeE s n l).1, (writeE s n l).2, (rwriteE r n l).2, rfl, by rw [← h1], h2⟩
theorem both_read {k : Nat} {s : DS} {r : RS} (h : St k s r) (n : Int) : ∃ x s' r', readE s n = (x, s') ∧ rreadE r n = (x, r') ∧ rreadL r n = readL s n ∧ St (k + 1) s' r' := by
  obtain ⟨h1, h2, h3⟩ := h.read n
  exact ⟨(readE s n).1, (readE s n).2, (rreadE r n).2, rfl, by rw [← h1], h3, h2⟩
theorem both_sync {k : Nat} {s : DS} {r : RS} (h : St k s r) : ∃ x s' r', syncE s = (x, s') ∧ rsyncE r = (x, r') ∧ St (k + 1) s' r' := by
  obtain ⟨h1, h2⟩ := h.sync
  exact ⟨(syncE s).1, (syncE s).2, (rsyncE r).2, rfl, by rw [← h1], h2⟩

section
variable {B g gr k : Nat} {s : DS} {r : RS} {w : World} (hM : Many B w [(g, s)]) (hR : RefAt w B gr r) (hS : St k s r) (hk : k ≤ 1000) (hB : B ≤ w.heap.size)
include hM hR hS hk hB
set_option maxHeartbeats 4000000 in
theorem act_1 (n m : Int) (A : Option Addr) (kl c : Nat) :
    Calls Try.prog 21 #[.pointer (some ⟨g, 0, none⟩), .pointer (some ⟨gr, 0, none⟩), .agg #[.int .i64 1, .int .i64 n, .int .i64 m, .slice A kl c]] w (ActP B k w) := by
  obtain ⟨x, s', r', ex, er, hS'⟩ := both_write hS n (secL m)
  have HW : Hid (∀ (w4 : World) (A : Option Addr), Many B w4 [(g, s)] → Bytes w4 A (secL m) → B ≤ w4.heap.size → Calls Try.prog 11 #[.pointer (some ⟨g, 0, none⟩), .int .i64 n, .slice A 256 256] w4 fun e w' => e = .returned (.int .i64 x) ∧ Many B w' [(g, s')] ∧ Below B w4 w' ∧ BKA w4 w') := Lib.hid fun w4 A h1 h2 h3 => by
    have := many_write (i := 0) h1 h3 rfl n A (secL m) 256 hS.fu h2 (secL_oct m) (by have := hS.pend; omega) (by rw [secL_len]; decide)
    rw [secL_len, ex] at this
    exact this.mono fun e w' x => ⟨x.1, x.2.1, x.2.2.1, x.2.2.2⟩
  have HV : Hid (∀ (w4 : World) (A : Option Addr), RefAt w4 B gr r → Bytes w4 A (secL m) → Calls Try.prog 28 #[.pointer (some ⟨gr, 0, none⟩), .int .i64 n, .slice A 256 256] w4 fun e w' => e = .returned (.int .i64 x) ∧ RefAt w' B gr r' ∧ KR w4 w' ∧ Below B w4 w') := Lib.hid fun w4 A h1 h2 => by
    have := rwrite_any B gr r n A (secL m) 256 w4 h1 hS.rfu h2 (secL_oct m) (by have := hS.len; omega) (by rw [secL_len]; decide)
    rw [secL_len] at this
    unfold RWriteP at this
    rw [er] at this
    exact this
  clear ex er
  go_enter Try.func21, Try.ntmps21
  have hx0 : Blk (w.alloc (.cells #[.int .i64 1, .int .i64 n, .int .i64 m, .slice A kl c] 32)) w.heap.size 32 #[.int .i64 1, .int .i64 n, .int .i64 m, .slice A kl c] := Blk.new w _ _
  have hb0 : Below w.heap.size w (w.alloc (.cells #[.int .i64 1, .int .i64 n, .int .i64 m, .slice A kl c] 32)) := (Below.refl _ _).alloc (Nat.le_refl _) _
  go_wp2_with fail
  refine (sector_any m _).mono ?_
  rintro e w2 ⟨rfl, hs2, hb2⟩
  generalize w.alloc (.cells #[.int .i64 1, .int .i64 n, .int .i64 m, .slice A kl c] 32) = W0 at *
  have hx2 := hx0.below hb2 hx0.lt
  have hM2 := (hM.below hb0).below hb2
  have hR2 := (hR.below hb0).below hb2
  have hB2 : Below B w w2 := (hb0.mono hB).trans (hb2.mono (Nat.le_trans hB hb0.size))
  have hby2 := Own.sec hs2
  have q2 : w2.cell? ⟨w.heap.size, 1, none⟩ = some (.int .i64 n) := hx2.cell 1
  have hsz2 := hB2.size
  go_wp2
  go_region_held3 (fun w' => w'.cell? ⟨w.heap.size, 1, none⟩ = some (.int .i64 n)) (go_keep)
    (first
      | (go_at_call 11; refine (HW.out _ _ (by exact hM2.drew) (by exact hby2) (by exact Nat.le_trans hB hsz2)).mono ?_; rintro e w5 ⟨rfl, hM5, hb5, hk5⟩; have q5 : w5.cell? ⟨w.heap.size, 1, none⟩ = some (.int .i64 n) := (hk5.blk hx2.drew free_op).cell 1)
      | (go_at_call 28; refine (HV.out _ _ (by exact hR2.drew.keep hk5 hb5.size) (by exact Bytes.keep (w := w2.drew) hby2 hk5.b)).mono ?_; rintro e w6 ⟨rfl, hR6, hk6, hb6⟩; have q6 : w6.cell? ⟨w.heap.size, 1, none⟩ = some (.int .i64 n) := (hk6.blk (hk5.blk hx2.drew free_op) (by decide) (by decide)).cell 1))
  all_goals
    go_wp2
    go_ret3
    exact ⟨g, s', gr, r', rfl, hM5.keepR hk6, hR6, hS', (hB2.drew.trans hb5).trans hb6⟩
set_option maxHeartbeats 4000000 in
theorem act_2 (n m : Int) (A : Option Addr) (kl c : Nat) :
    Calls Try.prog 21 #[.pointer (some ⟨g, 0, none⟩), .pointer (some ⟨gr, 0, none⟩), .agg #[.int .i64 2, .int .i64 n, .int .i64 m, .slice A kl c]] w (ActP B k w) := by
  obtain ⟨x, s', r', ex, er, el, hS'⟩ := both_read hS n
  have hx0 : Blk (w.alloc (.cells #[.int .i64 2, .int .i64 n, .int .i64 m, .slice A kl c] 32)) w.heap.size 32 #[.int .i64 2, .int .i64 n, .int .i64 m, .slice A kl c] := Blk.new w _ _
  have hb0 : Below w.heap.size w (w.alloc (.cells #[.int .i64 2, .int .i64 n, .int .i64 m, .slice A kl c] 32)) := (Below.refl _ _).alloc (Nat.le_refl _) _
  have hM0 := hM.below hb0
  have hR0 := hR.below hb0
  have hB0 : B ≤ (w.alloc (.cells #[.int .i64 2, .int .i64 n, .int .i64 m, .slice A kl c] 32)).heap.size := Nat.le_trans hB hb0.size
  have hc := fun h1 h2 => many_read (i := 0) (B := B) (w := w.alloc (.cells #[.int .i64 2, .int .i64 n, .int .i64 m, .slice A kl c] 32)) h1 h2 (L := [(g, s)]) rfl n
  have hlen : (readL s n).length ≤ 256 := by
    unfold readL
    split
    · rw [(many_len hM (i := 0) rfl n).1]; decide
    · simp
  have HR : Hid (∀ w4 : World, RefAt w4 B gr r → Calls Try.prog 29 #[.pointer (some ⟨gr, 0, none⟩), .int .i64 n] w4 fun e w' => ∃ A c, e = .returned (.tuple #[.slice A (readL s n).length c, .int .i64 x]) ∧ Bytes w' A (readL s n) ∧ RefAt w' B gr r' ∧ KR w4 w' ∧ Below B w4 w') := Lib.hid fun w4 h1 => by
    have := rread_any B gr r n w4 h1 (by have := hS.len; omega)
    unfold RReadP at this
    rw [er, el] at this
    exact this
  rw [ex] at hc
  have HC := Lib.hid (hc hM0 hB0)
  clear hc ex er el
  generalize readL s n = L at *
  go_enter Try.func21, Try.ntmps21
  go_wp2_with fail
  refine HC.out.mono ?_
  clear HC
  generalize w.alloc (.cells #[.int .i64 2, .int .i64 n, .int .i64 m, .slice A kl c] 32) = W0 at *
  rintro e w1 ⟨A1, c1, rfl, _, hby1, hM1, hb1, hk1⟩
  have hx1 := hk1.blk hx0 free_op
  have q1 : w1.cell? ⟨w.heap.size, 1, none⟩ = some (.int .i64 n) := hx1.cell 1
  have hR1 := hR0.keep hk1 hb1.size
  go_wp2_with fail
  refine (HR.out w1 hR1).mono ?_
  rintro e w2 ⟨A2, c2, rfl, hby2, hR2, hk2, hb2⟩
  have hby1' := hby1.keep hk2.bk
  have hM2 : Many B w2 [(g, s')] := Many.keepR hM1 hk2
  have hB2 : Below B w w2 := ((hb0.mono hB).trans hb1).trans hb2
  go_wp2_with fail
  refine (same_b A1 A2 L L c1 c2 w2 hby1'.1.whole hby2.1 (by omega)).mono ?_
  rintro e w3 ⟨rfl, hb3⟩
  have hsb : sameB L L = true := by simp [sameB]
  rw [hsb]
  go_wp2
  go_ret3
  exact ⟨g, s', gr, r', rfl, hM2.below hb3, hR2.below hb3, hS', hB2.trans (hb3.mono (Nat.le_trans hB hB2.size))⟩
set_option maxHeartbeats 4000000 in
theorem act_3 (n m : Int) (A : Option Addr) (kl c : Nat) :
    Calls Try.prog 21 #[.pointer (some ⟨g, 0, none⟩), .pointer (some ⟨gr, 0, none⟩), .agg #[.int .i64 3, .int .i64 n, .int .i64 m, .slice A kl c]] w (ActP B k w) := by
  obtain ⟨x, s', r', ex, er, hS'⟩ := both_sync hS
  have hx0 : Blk (w.alloc (.cells #[.int .i64 3, .int .i64 n, .int .i64 m, .slice A kl c] 32)) w.heap.size 32 #[.int .i64 3, .int .i64 n, .int .i64 m, .slice A kl c] := Blk.new w _ _
  have hb0 : Below w.heap.size w (w.alloc (.cells #[.int .i64 3, .int .i64 n, .int .i64 m, .slice A kl c] 32)) := (Below.refl _ _).alloc (Nat.le_refl _) _
  have hM0 := hM.below hb0
  have hR0 := hR.below hb0
  have hB0 : B ≤ (w.alloc (.cells #[.int .i64 3, .int .i64 n, .int .i64 m, .slice A kl c] 32)).heap.size := Nat.le_trans hB hb0.size
  have hc := fun h1 h2 => many_sync (i := 0) (B := B) (w := w.alloc (.cells #[.int .i64 3, .int .i64 n, .int .i64 m, .slice A kl c] 32)) h1 h2 (L := [(g, s)]) rfl hS.fu (by have := hS.pend; omega)
  have HR : Hid (∀ w4 : World, RefAt w4 B gr r → Calls Try.prog 30 #[.pointer (some ⟨gr, 0, none⟩)] w4 fun e w' => e = .returned (.int .i64 x) ∧ RefAt w' B gr r' ∧ KR w4 w' ∧ Below B w4 w') := Lib.hid fun w4 h1 => by
    have := rsync_any B gr r w4 h1 hS.rfu (by have := hS.len; omega)
    unfold RSyncP at this
    rw [er] at this
    exact this
  rw [ex] at hc
  have HC := Lib.hid (hc hM0 hB0)
  clear hc ex er
  go_enter Try.func21, Try.ntmps21
  go_wp2_with fail
  refine HC.out.mono ?_
  clear HC
  generalize w.alloc (.cells #[.int .i64 3, .int .i64 n, .int .i64 m, .slice A kl c] 32) = W0 at *
  rintro e w1 ⟨rfl, hM1, hb1, hk1⟩
  have hR1 := hR0.keep hk1 hb1.size
  go_wp2_with fail
  refine (HR.out w1 hR1).mono ?_
  rintro e w2 ⟨rfl, hR2, hk2, hb2⟩
  have hM2 : Many B w2 [(g, s')] := Many.keepR hM1 hk2
  have hB2 : Below B w w2 := ((hb0.mono hB).trans hb1).trans hb2
  go_wp2
  go_ret3
  exact ⟨g, s', gr, r', rfl, hM2, hR2, hS', hB2⟩
omit hk in
set_option maxHeartbeats 4000000 in
theorem act_4 (n m : Int) (A : Option Addr) (kl c : Nat) (hn : n ≤ 9223372036854775807) :
    Calls Try.prog 21 #[.pointer (some ⟨g, 0, none⟩), .pointer (some ⟨gr, 0, none⟩), .agg #[.int .i64 4, .int .i64 n, .int .i64 m, .slice A kl c]] w (ActP B k w) := by
  have hS' := hS.fuse n hn
  have hx0 : Blk (w.alloc (.cells #[.int .i64 4, .int .i64 n, .int .i64 m, .slice A kl c] 32)) w.heap.size 32 #[.int .i64 4, .int .i64 n, .int .i64 m, .slice A kl c] := Blk.new w _ _
  have hb0 : Below w.heap.size w (w.alloc (.cells #[.int .i64 4, .int .i64 n, .int .i64 m, .slice A kl c] 32)) := (Below.refl _ _).alloc (Nat.le_refl _) _
  have hM0 := hM.below hb0
  have hR0 := hR.below hb0
  have hB0 : B ≤ (w.alloc (.cells #[.int .i64 4, .int .i64 n, .int .i64 m, .slice A kl c] 32)).heap.size := Nat.le_trans hB hb0.size
  have hc := fun h1 h2 => many_fuse (i := 0) (B := B) (w := w.alloc (.cells #[.int .i64 4, .int .i64 n, .int .i64 m, .slice A kl c] 32)) h1 h2 (L := [(g, s)]) rfl n
  have HC := Lib.hid (hc hM0 hB0)
  clear hc
  go_enter Try.func21, Try.ntmps21
  go_wp2_with fail
  refine HC.out.mono ?_
  clear HC
  generalize w.alloc (.cells #[.int .i64 4, .int .i64 n, .int .i64 m, .slice A kl c] 32) = W0 at *
  rintro e w1 ⟨rfl, hM1, hb1, hk1⟩
  have hx1 := hk1.blk hx0 free_op
  have q1 : w1.cell? ⟨w.heap.size, 1, none⟩ = some (.int .i64 n) := hx1.cell 1
  have hR1 := hR0.keep hk1 hb1.size
  obtain ⟨vp, ps, hr⟩ := hR1
  have q3 : w1.cell? ⟨gr, 3, none⟩ = some (.int .i64 r.fuse) := hr.blk.cell 3
  have z3 := hr.blk.free 3
  have hsf := fun v : Int => hr.set_ (r' := { r with fuse := v }) 3 (.int .i64 v) rfl rfl
  have hkf := fun v : Int => hr.kr 3 (.int .i64 v)
  have HSF := Lib.hid hsf
  have HKF := Lib.hid hkf
  have hB1 : Below B w w1 := (hb0.mono hB).trans hb1
  have hbr := hr.base
  clear hsf hkf
  by_cases hn1 : n < -1
  · rw [show max n (-1) = -1 by omega] at hS' hM1
    go_wp2
    all_goals
      go_ret3
      exact ⟨g, _, gr, _, rfl, Many.keepR hM1 (HKF.out (-1)), ⟨vp, ps, HSF.out (-1)⟩, hS', hB1.trans (below_set hbr _ _)⟩
  · rw [show max n (-1) = n by omega] at hS' hM1
    go_wp2
    all_goals
      go_ret3
      exact ⟨g, _, gr, _, rfl, Many.keepR hM1 (HKF.out n), ⟨vp, ps, HSF.out n⟩, hS', hB1.trans (below_set hbr _ _)⟩
set_option maxHeartbeats 4000000 in
theorem act_6 (n m : Int) (A : Option Addr) (keep : List Bool) (c : Nat) (hkc : Cells w w.heap.size A (keep.map Value.bool)) (hkl : keep.length ≤ 9223372036854775807) :
    Calls Try.prog 21 #[.pointer (some ⟨g, 0, none⟩), .pointer (some ⟨gr, 0, none⟩), .agg #[.int .i64 6, .int .i64 n, .int .i64 m, .slice A keep.length c]] w (ActP B k w) := by
  have hS' := hS.cut keep
  have hx0 : Blk (w.alloc (.cells #[.int .i64 6, .int .i64 n, .int .i64 m, .slice A keep.length c] 32)) w.heap.size 32 #[.int .i64 6, .int .i64 n, .int .i64 m, .slice A keep.length c] := Blk.new w _ _
  have hb0 : Below w.heap.size w (w.alloc (.cells #[.int .i64 6, .int .i64 n, .int .i64 m, .slice A keep.length c] 32)) := (Below.refl _ _).alloc (Nat.le_refl _) _
  have hM0 := hM.below hb0
  have hR0 := hR.below hb0
  have hB0 : B ≤ (w.alloc (.cells #[.int .i64 6, .int .i64 n, .int .i64 m, .slice A keep.length c] 32)).heap.size := Nat.le_trans hB hb0.size
  have hc := fun h1 h2 h3 => many_cut (i := 0) (B := B) (w := w.alloc (.cells #[.int .i64 6, .int .i64 n, .int .i64 m, .slice A keep.length c] 32)) h1 h2 (L := [(g, s)]) rfl A keep c hS.sz0 hS.sz1 (by have := hS.pend; omega) h3 hkl
  have HC := Lib.hid (hc hM0 hB0 (hkc.below hb0).whole)
  have hk1 := (hkc.below hb0).whole
  clear hc
  go_enter Try.func21, Try.ntmps21
  go_wp2_with fail
  refine HC.out.mono ?_
  clear HC
  generalize w.alloc (.cells #[.int .i64 6, .int .i64 n, .int .i64 m, .slice A keep.length c] 32) = W0 at *
  rintro e w1 ⟨g', rfl, hM1, hb1⟩
  have hx1 := hx0.below hb1 hx0.lt
  have q1 : w1.cell? ⟨w.heap.size, 3, none⟩ = some (.slice A keep.length c) := hx1.cell 3
  have hR1 := hR0.below hb1
  go_wp2_with fail
  refine (rcut_any B gr r A keep c w1 hR1 hS.sim.le (by have := hS.len; omega) ((hk1.below hb1).whole) hkl).mono ?_
  rintro e w2 ⟨gr', rfl, hR2, hb2⟩
  have hM2 : Many B w2 [(g', cutS s keep)] := (hM1.drop (L' := [(g', cutS s keep)]) (fun _ => 1) (fun i j hi hj _ => by simp at hi hj; omega) (fun i hi => by simp) (fun i hi => by simp at hi; subst hi; rfl)).below hb2
  have hB2 : Below B w w2 := ((hb0.mono hB).trans (hb1.mono hB0)).trans (hb2.mono (Nat.le_trans hB0 hb1.size))
  go_wp2
  go_ret3
  exact ⟨g', _, gr', _, rfl, hM2, hR2.mono (Nat.le_trans hB0 hb1.size), hS', hB2⟩
omit hk in
set_option maxHeartbeats 4000000 in
theorem act_kd (n m : Int) (A : Option Addr) (kl c : Nat) (kd : Int) (h1 : (kd == 1) = false) (h2 : (kd == 2) = false) (h3 : (kd == 3) = false) (h4 : (kd == 4) = false) (h5 : (kd == 5) = false) (h6 : (kd == 6) = false) :
    Calls Try.prog 21 #[.pointer (some ⟨g, 0, none⟩), .pointer (some ⟨gr, 0, none⟩), .agg #[.int .i64 kd, .int .i64 n, .int .i64 m, .slice A kl c]] w (ActP B k w) := by
  have hx0 : Blk (w.alloc (.cells #[.int .i64 kd, .int .i64 n, .int .i64 m, .slice A kl c] 32)) w.heap.size 32 #[.int .i64 kd, .int .i64 n, .int .i64 m, .slice A kl c] := Blk.new w _ _
  have hb0 : Below w.heap.size w (w.alloc (.cells #[.int .i64 kd, .int .i64 n, .int .i64 m, .slice A kl c] 32)) := (Below.refl _ _).alloc (Nat.le_refl _) _
  have hM0 := hM.below hb0
  have hR0 := hR.below hb0
  have hB0 : B ≤ (w.alloc (.cells #[.int .i64 kd, .int .i64 n, .int .i64 m, .slice A kl c] 32)).heap.size := Nat.le_trans hB hb0.size
  go_enter Try.func21, Try.ntmps21
  go_wp2
  go_ret3
  exact ⟨g, s, gr, r, rfl, hM0, hR0, hS.mono (Nat.le_succ _), hb0.mono hB⟩
set_option maxHeartbeats 4000000 in
theorem act_5 (n m : Int) (A : Option Addr) (kl c : Nat) :
    Calls Try.prog 21 #[.pointer (some ⟨g, 0, none⟩), .pointer (some ⟨gr, 0, none⟩), .agg #[.int .i64 5, .int .i64 n, .int .i64 m, .slice A kl c]] w (ActP B k w) := by
  obtain ⟨q, hq⟩ : ∃ q, (IntKind.u64.wrap m).tmod 600 = q := ⟨_, rfl⟩
  have hq0 : 0 ≤ q ∧ q < 600 := by
    have h1 : 0 ≤ IntKind.u64.wrap m := by rw [IntKind.wrap_u64]; omega
    rw [← hq, Int.tmod_eq_emod_of_nonneg h1]
    omega
  obtain ⟨qn, rfl⟩ := Int.eq_ofNat_of_zero_le hq0.1
  obtain ⟨l, hll, ho, hmc⟩ : ∃ l : List Int, l.length = qn ∧ Oct l ∧ madeCells #[.int .u8 0] qn = (U8 l).toArray := ⟨List.replicate qn 0, by simp, fun x hx => by have := List.eq_of_mem_replicate hx; omega, by
    apply Array.ext'
    simp [madeCells, U8, List.map_replicate, List.eq_replicate_iff]
    intro a _
    rw [Nat.mod_one]
    rfl⟩
  subst hll
  have hmk : ∀ w, (Instr.makeSlice 33 (.int .i64 l.length) (.int .i64 l.length)).run Try.prog w = .ok (.slice (some ⟨w.heap.size, 0, none⟩) l.length l.length) (w.alloc (.cells (U8 l).toArray 5)) := fun w => by
    rw [← hmc]
    exact run_make_row' 33 5 (.int .u8 0) 1 Try.underlying33 info8 rfl .i64 .i64 l.length (by omega) (by omega) w
  clear hmc
  have hq1 : IntKind.u64.wrap (l.length : Int) = (l.length : Int) := by rw [IntKind.wrap_u64]; omega
  have hq2 : IntKind.i64.wrap (l.length : Int) = (l.length : Int) := by rw [IntKind.wrap_i64]; omega
  obtain ⟨x, s', r', ex, er, hS'⟩ := both_write hS n l
  have HW : Hid (∀ (w4 : World) (A : Option Addr), Many B w4 [(g, s)] → Bytes w4 A l → B ≤ w4.heap.size → Calls Try.prog 11 #[.pointer (some ⟨g, 0, none⟩), .int .i64 n, .slice A l.length l.length] w4 fun e w' => e = .returned (.int .i64 x) ∧ Many B w' [(g, s')] ∧ Below B w4 w' ∧ BKA w4 w') := Lib.hid fun w4 A h1 h2 h3 => by
    have := many_write (i := 0) h1 h3 rfl n A l l.length hS.fu h2 ho (by have := hS.pend; omega) (by omega)
    rw [ex] at this
    exact this.mono fun e w' x => ⟨x.1, x.2.1, x.2.2.1, x.2.2.2⟩
  have HV : Hid (∀ (w4 : World) (A : Option Addr), RefAt w4 B gr r → Bytes w4 A l → Calls Try.prog 28 #[.pointer (some ⟨gr, 0, none⟩), .int .i64 n, .slice A l.length l.length] w4 fun e w' => e = .returned (.int .i64 x) ∧ RefAt w' B gr r' ∧ KR w4 w' ∧ Below B w4 w') := Lib.hid fun w4 A h1 h2 => by
    have := rwrite_any B gr r n A l l.length w4 h1 hS.rfu h2 ho (by have := hS.len; omega) (by omega)
    unfold RWriteP at this
    rw [er] at this
    exact this
  clear ex er
  go_enter Try.func21, Try.ntmps21
  have hx0 : Blk (w.alloc (.cells #[.int .i64 5, .int .i64 n, .int .i64 m, .slice A kl c] 32)) w.heap.size 32 #[.int .i64 5, .int .i64 n, .int .i64 m, .slice A kl c] := Blk.new w _ _
  have hb0 : Below w.heap.size w (w.alloc (.cells #[.int .i64 5, .int .i64 n, .int .i64 m, .slice A kl c] 32)) := (Below.refl _ _).alloc (Nat.le_refl _) _
  go_wp2
  have hs2 := Blk.second w (.cells #[.int .i64 5, .int .i64 n, .int .i64 m, .slice A kl c] 32) 5 (U8 l).toArray
  have hb2 := (Below.refl (w.alloc (.cells #[.int .i64 5, .int .i64 n, .int .i64 m, .slice A kl c] 32)).heap.size (w.alloc (.cells #[.int .i64 5, .int .i64 n, .int .i64 m, .slice A kl c] 32))).alloc (Nat.le_refl _) (.cells (U8 l).toArray 5)
  generalize w.alloc (.cells #[.int .i64 5, .int .i64 n, .int .i64 m, .slice A kl c] 32) = W0 at *
  generalize W0.alloc (.cells (U8 l).toArray 5) = w2 at *
  have hx2 := hx0.below hb2 hx0.lt
  have hM2 := (hM.below hb0).below hb2
  have hR2 := (hR.below hb0).below hb2
  have hB2 : Below B w w2 := (hb0.mono hB).trans (hb2.mono (Nat.le_trans hB hb0.size))
  have hby2 := Own.bytes (own_blk hs2 (Nat.zero_le _) (by unfold maxLen; omega))
  have q2 : w2.cell? ⟨w.heap.size, 1, none⟩ = some (.int .i64 n) := hx2.cell 1
  have hsz2 := hB2.size
  go_region_held3 (fun w' => w'.cell? ⟨w.heap.size, 1, none⟩ = some (.int .i64 n)) (go_keep)
    (first
      | (go_at_call 11; refine (HW.out _ _ (by exact hM2.drew) (by exact hby2) (by exact Nat.le_trans hB hsz2)).mono ?_; rintro e w5 ⟨rfl, hM5, hb5, hk5⟩; have q5 : w5.cell? ⟨w.heap.size, 1, none⟩ = some (.int .i64 n) := (hk5.blk hx2.drew free_op).cell 1)
      | (go_at_call 28; refine (HV.out _ _ (by exact hR2.drew.keep hk5 hb5.size) (by exact Bytes.keep (w := w2.drew) hby2 hk5.b)).mono ?_; rintro e w6 ⟨rfl, hR6, hk6, hb6⟩; have q6 : w6.cell? ⟨w.heap.size, 1, none⟩ = some (.int .i64 n) := (hk6.blk (hk5.blk hx2.drew free_op) (by decide) (by decide)).cell 1))
  all_goals
    go_wp2
    go_ret3
    exact ⟨g, s', gr, r', rfl, hM5.keepR hk6, hR6, hS', (hB2.drew.trans hb5).trans hb6⟩
end
end Go.Proofs.Ytaimohidpppfeaa
