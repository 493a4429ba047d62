/-
  The reference's Save, in step with the program's.
-/
import Derived.Test.YtobdbkhjdhnooaaNc
set_option linter.unusedVariables false
namespace Go.Proofs.Ytobdbkhjdhnooaa
open Go.RowKit

/-- What the reference's Save answers. -/
def RSaveP (B gr k : Nat) (s : DS) (G : Int) (p : List Int) (w : World) (e : Ending) (w' : World) : Prop :=
  ∃ r', e = .returned (.int .i64 (saveE s G p).1) ∧ RefAt w' B gr r' ∧ St (k + 3) (saveE s G p).2 r' ∧ KR w w' ∧ Below B w w'
theorem rsave_fin {B gr k : Nat} {s s' : DS} {G x : Int} {p : List Int} {w w' : World} {r' : RS} (he : saveE s G p = (x, s')) (h : RefAt w' B gr r') (hS : St (k + 3) s' r') (hK : KR w w') (hB : Below B w w') : RSaveP B gr k s G p w (.returned (.int .i64 x)) w' := by
  unfold RSaveP
  rw [he]
  exact ⟨r', rfl, h, hS, hK, hB⟩

set_option maxHeartbeats 8000000 in
theorem rsave_any {B gr k : Nat} {s : DS} {r : RS} {w : World} (hR : RefAt w B gr r) (hS : St k s r) (hk : k ≤ 1000) (G : Int) (A : Option Addr) (p : List Int) (c : Nat) (h0 : 0 ≤ G) (h1 : G ≤ 18446744073709551615) (hp : Cells w B A (U8 p)) (ho : Oct p) (hpl : p.length ≤ 9223372036854775807) :
    Calls Try.prog 20 #[.pointer (some ⟨gr, 0, none⟩), .agg #[.int .u64 G, .slice A p.length c]] w (RSaveP B gr k s G p w) := by
  have hBw : B ≤ w.heap.size := by
    obtain ⟨vp, ps, h⟩ := hR
    exact Nat.le_trans h.base (Nat.le_of_lt h.blk.lt)
  have hx0 : Blk (w.alloc (.cells #[.int .u64 G, .slice A p.length c] 44)) w.heap.size 44 #[.int .u64 G, .slice A p.length c] := Blk.new w _ _
  have hb0 : Below w.heap.size w (w.alloc (.cells #[.int .u64 G, .slice A p.length c] 44)) := (Below.refl _ _).alloc (Nat.le_refl _) _
  have hR0 := hR.below hb0
  have hK0 := KR.of_below hb0
  have hB0 := hb0.mono hBw
  have hsz0 : (w.alloc (.cells #[.int .u64 G, .slice A p.length c] 44)).cell? ⟨gr, 0, none⟩ = some (.int .i64 s.size) := by
    obtain ⟨vp, ps, h⟩ := hR0
    rw [← hS.sim.size]
    exact h.blk.cell 0
  have y0 : (w.alloc (.cells #[.int .u64 G, .slice A p.length c] 44)).cell? ⟨w.heap.size, 0, none⟩ = some (.int .u64 G) := hx0.cell 0
  have y1 : (w.alloc (.cells #[.int .u64 G, .slice A p.length c] 44)).cell? ⟨w.heap.size, 1, none⟩ = some (.slice A p.length c) := hx0.cell 1
  by_cases hsz : s.size < 2
  · have HF := Lib.hid (rsave_fin (k := k) (w := w) (show saveE s G p = (1, s) by unfold saveE; rw [if_pos (.inl hsz)]) hR0 (hS.mono (by omega)) hK0 hB0)
    go_enter Try.func20, Try.ntmps20
    go_wp2
    go_ret
    exact HF.out
  by_cases hg0 : G = 0
  · have HF := Lib.hid (rsave_fin (k := k) (w := w) (show saveE s G p = (1, s) by unfold saveE; rw [if_pos (.inr hg0)]) hR0 (hS.mono (by omega)) hK0 hB0)
    have hgb : (G == 0) = true := by simpa using hg0
    clear hg0
    go_enter Try.func20, Try.ntmps20
    go_wp2
    go_ret
    exact HF.out
  have hgb : (G == 0) = false := by simpa using hg0
  by_cases hl : 200 < p.length
  · have HF := Lib.hid (rsave_fin (k := k) (w := w) (show saveE s G p = (3, s) by unfold saveE; rw [if_neg (by omega), if_pos hl]) hR0 (hS.mono (by omega)) hK0 hB0)
    have hlb : (200 : Int) < (p.length : Int) := by omega
    clear hg0
    go_enter Try.func20, Try.ntmps20
    go_wp2
    go_ret
    exact HF.out
  have hlb : ¬ (200 : Int) < (p.length : Int) := by omega
  have hE : saveE s G p = if (syncE s).1 ≠ 0 then (7, (syncE s).2) else
      if (writeE (syncE s).2 (G % 2) (secH G p)).1 ≠ 0 then (7, (writeE (syncE s).2 (G % 2) (secH G p)).2) else
      if (syncE (writeE (syncE s).2 (G % 2) (secH G p)).2).1 ≠ 0 then (7, (syncE (writeE (syncE s).2 (G % 2) (secH G p)).2).2) else
      (0, (syncE (writeE (syncE s).2 (G % 2) (secH G p)).2).2) := by unfold saveE; rw [if_neg (by omega), if_neg hl]
  clear hg0
  obtain ⟨x1, s1, r1, e1, f1, hS1⟩ := both_sync hS
  obtain ⟨x2, s2, r2, e2, f2, hS2⟩ := both_write hS1 (G % 2) (secH G p)
  obtain ⟨x3, s3, r3, e3, f3, hS3⟩ := both_sync hS2
  rw [e1] at hE
  simp only at hE
  rw [e2] at hE
  simp only at hE
  rw [e3] at hE
  simp only at hE
  have hC1 : ∀ w4 : World, RefAt w4 B gr r → Calls Try.prog 34 #[.pointer (some ⟨gr, 0, none⟩)] w4 fun e w' => e = .returned (.int .i64 x1) ∧ RefAt w' B gr r1 ∧ KR w4 w' ∧ Below B w4 w' := fun w4 m1 => by
    have := rsync_any B gr r w4 m1 hS.rfu (by have := hS.len; omega)
    unfold RSyncP at this
    rw [f1] at this
    exact this
  have hC2 : ∀ (w4 : World) (A3 : Option Addr) (c3 : Nat), RefAt w4 B gr r1 → Bytes w4 A3 (secH G p) → Calls Try.prog 22 #[.pointer (some ⟨gr, 0, none⟩), .int .i64 (G % 2), .slice A3 (secH G p).length c3] w4 fun e w' => e = .returned (.int .i64 x2) ∧ RefAt w' B gr r2 ∧ KR w4 w' ∧ Below B w4 w' := fun w4 A3 c3 m1 m2 => by
    have := rwrite_any B gr r1 (G % 2) A3 (secH G p) c3 w4 m1 hS1.rfu m2 (secH_oct G p ho) (by have := hS1.len; omega) (by rw [secH_len G p (by omega)]; decide)
    unfold RWriteP at this
    rw [f2] at this
    exact this
  have hC3 : ∀ w4 : World, RefAt w4 B gr r2 → Calls Try.prog 34 #[.pointer (some ⟨gr, 0, none⟩)] w4 fun e w' => e = .returned (.int .i64 x3) ∧ RefAt w' B gr r3 ∧ KR w4 w' ∧ Below B w4 w' := fun w4 m1 => by
    have := rsync_any B gr r2 w4 m1 hS2.rfu (by have := hS2.len; omega)
    unfold RSyncP at this
    rw [f3] at this
    exact this
  have hCs : ∀ w4 : World, Cells w4 w4.heap.size A (U8 p) → Calls Try.prog 35 #[.agg #[.int .u64 G, .slice A p.length c]] w4 fun e w' => ∃ A3 c3, e = .returned (.slice A3 (secH G p).length c3) ∧ Bytes w' A3 (secH G p) ∧ Below w4.heap.size w4 w' := fun w4 m1 => by
    refine (rsector_any G A p c w4 h0 h1 (by omega) m1).mono ?_
    rintro e w' ⟨v, rfl, hown, hBl⟩
    obtain ⟨A3, c3, rfl, _⟩ := hown.shape
    exact ⟨A3, c3, rfl, hown.bytes, hBl⟩
  have HC1 := Lib.hid hC1
  have HC2 := Lib.hid hC2
  have HC3 := Lib.hid hC3
  have HCs := Lib.hid hCs
  clear hC1 hC2 hC3 hCs f1 f2 f3
  have HE := Lib.hid hE
  clear hE
  have v1 : x1 = 0 ∨ x1 = 7 := by
    have : (syncE s).1 = x1 := by rw [e1]
    rw [← this]
    unfold syncE
    split
    · exact .inr rfl
    · split
      · exact .inr rfl
      · exact .inl rfl
  have v2 : x2 = 0 ∨ x2 ≠ 0 := by omega
  have v3 : x3 = 0 ∨ x3 ≠ 0 := by omega
  clear e1 e2 e3
  have hq : G.tmod 2 = G % 2 := Int.tmod_eq_emod_of_nonneg h0
  obtain ⟨q, hqq⟩ : ∃ q, G % 2 = q := ⟨_, rfl⟩
  rw [hqq] at hq HC2
  have hq0 : 0 ≤ q ∧ q < 2 := by omega
  have hq1 : IntKind.u64.wrap q = q := by rw [IntKind.wrap_u64]; omega
  have hq2 : IntKind.i64.wrap q = q := by rw [IntKind.wrap_i64]; omega
  clear hqq
  rcases v1 with rfl | rfl
  · go_enter Try.func20, Try.ntmps20
    go_wp2_with fail
    refine (HC1.out _ hR0).mono ?_
    clear hsz0 y0 y1
    generalize w.alloc (.cells #[.int .u64 G, .slice A p.length c] 44) = W0 at *
    rintro e w4 ⟨rfl, hR4, hk4, hb4⟩
    have hx4 := hk4.blk hx0 (by decide) (by decide)
    have p0 : w4.cell? ⟨w.heap.size, 0, none⟩ = some (.int .u64 G) := hx4.cell 0
    have p1 : w4.cell? ⟨w.heap.size, 1, none⟩ = some (.slice A p.length c) := hx4.cell 1
    have hB4 := hB0.trans hb4
    have hp4 := (hp.below hB4).whole
    have hK4 := hK0.trans hk4
    go_wp2
    go_region_held3 (fun w' => w'.cell? ⟨w.heap.size, 0, none⟩ = some (.int .u64 G) ∧ w'.cell? ⟨w.heap.size, 1, none⟩ = some (.slice A p.length c)) (go_keep)
      (first
        | (go_at_call 35; refine (HCs.out _ (by exact hp4.drew)).mono ?_; rintro e w5 ⟨A3, c3, rfl, hby5, hb5⟩; have hx5 := hx4.drew.below hb5 hx4.lt; have p50 : w5.cell? ⟨w.heap.size, 0, none⟩ = some (.int .u64 G) := hx5.cell 0; have p51 : w5.cell? ⟨w.heap.size, 1, none⟩ = some (.slice A p.length c) := hx5.cell 1)
        | (go_at_call 22; refine (HC2.out _ _ _ (by exact hR4.drew.below hb5) (by exact hby5)).mono ?_; rintro e w6 ⟨rfl, hR6, hk6, hb6⟩; have hx6 := hk6.blk hx5 (by decide) (by decide); have p60 : w6.cell? ⟨w.heap.size, 0, none⟩ = some (.int .u64 G) := hx6.cell 0; have p61 : w6.cell? ⟨w.heap.size, 1, none⟩ = some (.slice A p.length c) := hx6.cell 1))
    all_goals
      have hK6 := (hK4.drew.trans (KR.of_below hb5)).trans hk6
      have hB6 : Below B w w6 := (hB4.drew.trans (hb5.mono (Nat.le_trans hBw hB4.size))).trans hb6
      rcases v2 with rfl | v2
      · go_wp2_with fail
        refine (HC3.out w6 hR6).mono ?_
        rintro e w7 ⟨rfl, hR7, hk7, hb7⟩
        have hK7 := hK6.trans hk7
        have hB7 := hB6.trans hb7
        rcases v3 with rfl | v3
        · go_wp2
          go_ret
          exact rsave_fin (HE.out.trans (by rw [if_neg (by decide), if_neg (by decide), if_neg (by decide)])) hR7 hS3 hK7 hB7
        · have hxb : (x3 != 0) = true := by simpa using v3
          have HV3 := Lib.hid v3
          clear v3
          go_wp2
          go_ret
          exact rsave_fin (HE.out.trans (by rw [if_neg (by decide), if_neg (by decide), if_pos HV3.out])) hR7 hS3 hK7 hB7
      · have hxb : (x2 != 0) = true := by simpa using v2
        have HV2 := Lib.hid v2
        clear v2
        go_wp2
        go_ret
        exact rsave_fin (HE.out.trans (by rw [if_neg (by decide), if_pos HV2.out])) hR6 (hS2.mono (by omega)) hK6 hB6
  · go_enter Try.func20, Try.ntmps20
    go_wp2_with fail
    refine (HC1.out _ hR0).mono ?_
    clear hsz0 y0 y1
    generalize w.alloc (.cells #[.int .u64 G, .slice A p.length c] 44) = W0 at *
    rintro e w4 ⟨rfl, hR4, hk4, hb4⟩
    go_wp2
    go_ret
    exact rsave_fin (HE.out.trans (by rw [if_pos (by decide)])) hR4 (hS1.mono (by omega)) (hK0.trans hk4) (hB0.trans hb4)
end Go.Proofs.Ytobdbkhjdhnooaa
