/-
  DiskPlays.
-/
import Derived.Test.YtaimohidpppfeaaEd
set_option linter.unusedVariables false
namespace Go.Proofs.Ytaimohidpppfeaa
open Go.RowKit

theorem act_any {B g gr k : Nat} {s : DS} {r : RS} {w : World} (hM : Many B w [(g, s)]) (hR : RefAt w B gr r) (hS : St k s r) (hk : k ≤ 1000) (hB : B ≤ w.heap.size) (o : OpD) (hf : o.Fits w) :
    Calls Try.prog 21 #[.pointer (some ⟨g, 0, none⟩), .pointer (some ⟨gr, 0, none⟩), .agg #[.int .i64 o.kind, .int .i64 o.n, .int .i64 o.m, .slice o.A o.keep.length o.c]] w (ActP B k w) := by
  have hfn := hf.hn
  have hfm := hf.hm
  unfold I64 at hfn hfm
  by_cases h1 : o.kind = 1
  · rw [h1]; exact act_1 hM hR hS hk hB _ _ _ _ _
  by_cases h2 : o.kind = 2
  · rw [h2]; exact act_2 hM hR hS hk hB _ _ _ _ _
  by_cases h3 : o.kind = 3
  · rw [h3]; exact act_3 hM hR hS hk hB _ _ _ _ _
  by_cases h4 : o.kind = 4
  · rw [h4]; exact act_4 hM hR hS hB _ _ _ _ _ hfn.2
  by_cases h5 : o.kind = 5
  · rw [h5]; exact act_5 hM hR hS hk hB _ _ _ _ _
  by_cases h6 : o.kind = 6
  · rw [h6]; exact act_6 hM hR hS hk hB _ _ _ _ _ hf.hc hf.hl
  exact act_kd hM hR hS hB _ _ _ _ _ _ (by simpa using h1) (by simpa using h2) (by simpa using h3) (by simpa using h4) (by simpa using h5) (by simpa using h6)

set_option maxHeartbeats 1000000 in
theorem rpending_d (B g : Nat) (r : RS) (w : World) (h : RefAt w B g r) (h1 : r.lasts ≤ r.all.length) (h2 : r.all.length ≤ 1000000000) :
    Calls Try.prog 23 #[.pointer (some ⟨g, 0, none⟩)] w fun e w' => e = .returned (.int .i64 (r.all.length - r.lasts : Nat)) ∧ w' = w.drew := by
  obtain ⟨vp, ps, h⟩ := h
  obtain ⟨A, c, e, _⟩ := ownsRow_shape h.row
  have hp := h.pend.len
  have c1 : w.cell? ⟨g, 1, none⟩ = some (.slice A r.all.length c) := by
    have : w.cell? ⟨g, 1, none⟩ = some vp := h.blk.cell 1
    rw [this, e, hp]
  have c2 : w.cell? ⟨g, 2, none⟩ = some (.int .i64 r.lasts) := h.blk.cell 2
  have HE := Lib.hid e
  clear e hp
  go_enter Try.func23, Try.ntmps23
  have hwr : IntKind.i64.wrap ((r.all.length : Int) - (r.lasts : Int)) = ((r.all.length - r.lasts : Nat) : Int) := by rw [IntKind.wrap_i64]; omega
  go_wp2
  go_region
  all_goals
    go_wp2
    go_ret
    exact ⟨rfl, rfl⟩

set_option maxHeartbeats 8000000 in
theorem plays_walk (z : Int) (A : Option Addr) (l : List OpD) (c : Nat) (w : World) (h : Ops w A l) (hl : l.length ≤ 9223372036854775807) :
    Calls Try.prog 6 #[.int .i64 z, .slice A l.length c] w fun e w' => e = .returned (.bool true) ∧ Below w.heap.size w w' := by
  go_enter Try.func6, Try.ntmps6
  go_wp2_with fail
  refine (awake_any w).mono ?_
  rintro e w1 ⟨rfl, hb1⟩
  go_wp2_with fail
  refine (few_any A l c w1 (h.below hb1) hl).mono ?_
  rintro e w2 ⟨b, rfl, rfl, hfew⟩
  cases b with
  | false =>
    clear hfew
    go_wp2_with fail
    refine (awake_any w1).mono ?_
    rintro e w2 ⟨rfl, hb2⟩
    go_wp2
    go_ret
    exact ⟨rfl, hb1.trans (hb2.mono hb1.size)⟩
  | true =>
    obtain ⟨hl60, _⟩ := hfew rfl
    clear hfew
    have m1 : Many w.heap.size w1 [] := Many.nil _ _
    go_wp2_with fail
    refine (many_new m1 hb1.size z).mono ?_
    rintro e w2 ⟨g, rfl, m2, hb2⟩
    have B2 := hb1.trans (hb2.mono hb1.size)
    clear hb1 hb2 m1
    go_wp2_with fail
    refine (rnew_any z w2).mono ?_
    rintro e w3 ⟨gr, rfl, r3, hb3⟩
    have B3 := B2.trans (hb3.mono B2.size)
    have m3 := m2.below hb3
    have r3' := r3.mono B2.size
    have st0 : St 0 (newDS z) (newR z) := ⟨Sim.new z, by show 0 ≤ min (max z 0) 65536; omega, by show min (max z 0) 65536 ≤ 65536; omega, by show (-1 : Int) ≤ _; decide, Nat.le_refl _⟩
    clear B2 hb3 m2 r3
    go_wp2
    go_loopw [5, 6, 7, 8] (fun d v ok i wr => ∃ (k g : Nat) (s : DS) (gr : Nat) (r : RS), d = .pointer (some ⟨g, 0, none⟩) ∧ v = .pointer (some ⟨gr, 0, none⟩) ∧ ok = .bool true ∧ i = .int .i64 k ∧ k ≤ l.length ∧ Many w.heap.size wr [(g, s)] ∧ RefAt wr w.heap.size gr r ∧ St k s r ∧ Below w.heap.size w wr)
      (fun _ _ _ i _ => l.length - (intOf i).toNat)
    case atStart => exact ⟨0, g, _, gr, _, rfl, rfl, rfl, rfl, Nat.zero_le _, m3, r3', st0, B3⟩
    case round =>
      clear m3 r3' st0 B3
      obtain ⟨k, g, s, gr, r, rfl, rfl, rfl, rfl, hk, hM, hR, hS, hB⟩ := hrel
      by_cases hlt : k < l.length
      · have hgk : (k : Int) < (l.length : Int) := by omega
        obtain ⟨b, off, rfl, hb, c0, c1, c2, c3⟩ := (h.below hB).at_ hlt
        have hfit := (h.below hB).fits _ (List.getElem_mem hlt)
        have HA := Lib.hid (act_any hM hR hS (by omega) hB.size (l[k]) hfit)
        generalize l[k] = o at *
        obtain ⟨kd, n, m, Ak, keep, ck⟩ := o
        simp only at c0 c1 c2 c3 HA
        clear hfit
        go_wp2_with fail
        refine HA.out.mono ?_
        rintro e w4 ⟨g', s', gr', r', rfl, hM4, hR4, hS4, hb4⟩
        have hB4 := hB.trans hb4
        have hr4 := hR4
        obtain ⟨vp, ps, hr⟩ := hr4
        have hsim := hS4.sim
        have x0 : w4.cell? ⟨gr', 0, none⟩ = some (.int .i64 s'.size) := by rw [← hsim.size]; exact hr.blk.cell 0
        have x4 : w4.cell? ⟨gr', 4, none⟩ = some (.bool s'.down) := by rw [← hsim.no]; exact hr.blk.cell 4
        have x5 : w4.cell? ⟨gr', 5, none⟩ = some (.int .i64 s'.a0) := by rw [← hsim.a0]; exact hr.blk.cell 5
        have x6 : w4.cell? ⟨gr', 6, none⟩ = some (.int .i64 s'.a1) := by rw [← hsim.a1]; exact hr.blk.cell 6
        have x7 : w4.cell? ⟨gr', 7, none⟩ = some (.int .i64 s'.a2) := by rw [← hsim.a2]; exact hr.blk.cell 7
        have hgl := hr.blk.lt
        have HP : Hid (∀ w5 : World, RefAt w5 w.heap.size gr' r' → Calls Try.prog 23 #[.pointer (some ⟨gr', 0, none⟩)] w5 fun e w' => e = .returned (.int .i64 (s'.pend.length : Nat)) ∧ w' = w5.drew) := Lib.hid fun w5 h5 => by
          have := rpending_d w.heap.size gr' r' w5 h5 hsim.le (by have := hS4.len; omega)
          rw [hsim.pending] at this
          exact this
        have h3 := fun w => eq3 s'.a0 s'.a1 s'.a2 s'.a0 s'.a1 s'.a2 w
        simp only [beq_self_eq_true, Bool.and_self] at h3
        clear c0 c1 c2 c3 HA hM hR hS hB hb4 hsim hr
        go_wp2
        go_region_held3 (fun w' => w'.cell? ⟨gr', 0, none⟩ = some (.int .i64 s'.size) ∧ w'.cell? ⟨gr', 4, none⟩ = some (.bool s'.down) ∧ w'.cell? ⟨gr', 5, none⟩ = some (.int .i64 s'.a0) ∧ w'.cell? ⟨gr', 6, none⟩ = some (.int .i64 s'.a1) ∧ w'.cell? ⟨gr', 7, none⟩ = some (.int .i64 s'.a2)) (go_keep)
          (first
            | (go_at_call 22; refine (many_size (i := 0) (L := [(g', s')]) (by exact hM4.drew) rfl).mono ?_; rintro e w5 ⟨rfl, rfl⟩)
            | (go_at_call 19; refine (many_down (i := 0) (L := [(g', s')]) (by exact hM4.drew) rfl).mono ?_; rintro e w5 ⟨rfl, rfl⟩)
            | (go_at_call 17; refine (many_pending (i := 0) (L := [(g', s')]) (by exact hM4.drew) rfl).mono ?_; rintro e w5 ⟨rfl, rfl⟩)
            | (go_at_call 23; refine (HP.out _ (by exact hR4.drew)).mono ?_; rintro e w5 ⟨rfl, rfl⟩)
            | (go_at_call 24; refine (many_acts (i := 0) (L := [(g', s')]) (by exact hM4.drew.drew) rfl).mono ?_; rintro e w7 ⟨rfl, hb7⟩; have hk7 := fun (p : Addr) (hp : p.block < w4.heap.size) => hb7.cell (p := p) hp))
        all_goals
          go_wp2
          go_roundw
          case rel => exact ⟨k + 1, g', s', gr', r', rfl, rfl, rfl, by go_num, by omega, hM4.drew.drew.below hb7, hR4.drew.drew.below hb7, hS4, hB4.drew.drew.trans (hb7.mono hB4.size)⟩
          case measure => simp [intOf]; omega
      · have hgk : ¬ (k : Int) < (l.length : Int) := by omega
        go_wp2
        go_ret
        exact ⟨rfl, hB⟩
end Go.Proofs.Ytaimohidpppfeaa
