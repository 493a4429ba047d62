/-
  The contracts of meta.Save, meta.Open.
-/
import Derived.Test.YtobdbkhjdhnooaaMa
import Derived.Test.YtobdbkhjdhnooaaDx
import Derived.Deep.RegionWith
set_option linter.unusedVariables false
namespace Go.Proofs.Ytobdbkhjdhnooaa
open Go.RowKit

theorem BKA.trans {a b c : World} (h : BKA a b) (k : BKA b c) : BKA a c := fun i cur t mk ht hi => by
  have h1 := h i cur t mk ht hi
  exact (k i cur t mk ht (h1.trans hi)).trans h1
theorem BKA.refl (w : World) : BKA w w := fun _ _ _ _ _ _ => rfl
/-- The bytes p are there in every world that keeps what lies below B and what no disk writes. -/
def Kept (B : Nat) (w : World) (A : Option Addr) (p : List Int) : Prop := ∀ w', Below B w w' → BKA w w' → Cells w' w'.heap.size A (U8 p)
theorem Kept.of_bytes {B : Nat} {w : World} {A : Option Addr} {p : List Int} (h : Bytes w A p) : Kept B w A p := fun w' _ hk => (h.keep hk.b).1
theorem Kept.of_low {B : Nat} {w : World} {A : Option Addr} {p : List Int} (h : Cells w B A (U8 p)) : Kept B w A p := fun w' hb _ => (h.below hb).whole
theorem Kept.later {B : Nat} {w w1 : World} {A : Option Addr} {p : List Int} (h : Kept B w A p) (hb : Below B w w1) (hk : BKA w w1) : Kept B w1 A p := fun w' hb' hk' => h w' (hb.trans hb') (hk.trans hk')
theorem free_head : Free 30 := ⟨by decide, by decide⟩

section
variable {B : Nat} {w : World} {L : List (Nat × DS)} (h : Many B w L) (hB : B ≤ w.heap.size) {i g : Nat} {s : DS} (hi : L[i]? = some (g, s))
include h hB hi
/-- What Save answers. -/
def SaveP (B : Nat) (L : List (Nat × DS)) (i g : Nat) (x : Int) (s' : DS) (w : World) (e : Ending) (w' : World) : Prop :=
  e = .returned (.int .i64 x) ∧ Many B w' (L.set i (g, s')) ∧ Below B w w' ∧ BKA w w'
set_option maxHeartbeats 8000000 in
theorem many_save (G : Int) (A : Option Addr) (p : List Int) (c : Nat) (h0 : 0 ≤ G) (h1 : G ≤ 18446744073709551615) (hp : Kept B w A p) (ho : Oct p) (hpl : p.length ≤ 9223372036854775807) (hf : s.fuse ≤ 9223372036854775807) (hpn : s.pend.length ≤ 900000000) :
    Calls Try.prog 10 #[.pointer (some ⟨g, 0, none⟩), .agg #[.int .u64 G, .slice A p.length c]] w (SaveP B L i g (saveE s G p).1 (saveE s G p).2 w) := by
  have hx0 : Blk (w.alloc (.cells #[.int .u64 G, .slice A p.length c] 30)) w.heap.size 30 #[.int .u64 G, .slice A p.length c] := Blk.new w _ _
  have hb0 : Below w.heap.size w (w.alloc (.cells #[.int .u64 G, .slice A p.length c] 30)) := (Below.refl _ _).alloc (Nat.le_refl _) _
  have hk0 := BKA.of_below hb0
  have hM0 := h.below hb0
  have hLs : L.set i (g, s) = L := by
    apply List.ext_getElem?
    intro j
    rw [List.getElem?_set]
    split
    · rename_i e
      subst e
      rw [hi]
      split
      · rfl
      · rename_i hlt
        rw [List.getElem?_eq_none (by omega)] at hi
        cases hi
    · rfl
  have hno : ∀ x, saveE s G p = (x, s) → SaveP B L i g (saveE s G p).1 (saveE s G p).2 w (.returned (.int .i64 x)) (w.alloc (.cells #[.int .u64 G, .slice A p.length c] 30)) := fun x hx => by
    rw [hx]
    unfold SaveP
    rw [hLs]
    exact ⟨rfl, hM0, hb0.mono hB, hk0⟩
  have HNO := Lib.hid hno
  clear hno hLs
  have HSZ := Lib.hid (many_size (i := i) hM0 hi)
  by_cases hsz : s.size < 2
  · have HE := Lib.hid (show saveE s G p = (1, s) by unfold saveE; rw [if_pos (.inl hsz)])
    go_enter Try.func10, Try.ntmps10
    go_wp2_with fail
    refine HSZ.out.mono ?_
    rintro e w1 ⟨rfl, rfl⟩
    go_wp2
    go_ret
    exact HNO.out 1 HE.out
  by_cases hg0 : G = 0
  · have HE := Lib.hid (show saveE s G p = (1, s) by unfold saveE; rw [if_pos (.inr hg0)])
    have hgb : (G == 0) = true := by simpa using hg0
    clear hg0
    go_enter Try.func10, Try.ntmps10
    go_wp2_with fail
    refine HSZ.out.mono ?_
    rintro e w1 ⟨rfl, rfl⟩
    go_wp2
    go_ret
    exact HNO.out 1 HE.out
  have hgb : (G == 0) = false := by simpa using hg0
  by_cases hl : 200 < p.length
  · have HE := Lib.hid (show saveE s G p = (3, s) by unfold saveE; rw [if_neg (by omega), if_pos hl])
    have hlb : (200 : Int) < (p.length : Int) := by omega
    clear hg0
    go_enter Try.func10, Try.ntmps10
    go_wp2_with fail
    refine HSZ.out.mono ?_
    rintro e w1 ⟨rfl, rfl⟩
    go_wp2
    go_ret
    exact HNO.out 3 HE.out
  have hlb : ¬ (200 : Int) < (p.length : Int) := by omega
  have hE : saveE s G p = if (syncE s).1 ≠ 0 then (7, (syncE s).2) else
      if (writeE (syncE s).2 (G % 2) (secH G p)).1 ≠ 0 then (7, (writeE (syncE s).2 (G % 2) (secH G p)).2) else
      if (syncE (writeE (syncE s).2 (G % 2) (secH G p)).2).1 ≠ 0 then (7, (syncE (writeE (syncE s).2 (G % 2) (secH G p)).2).2) else
      (0, (syncE (writeE (syncE s).2 (G % 2) (secH G p)).2).2) := by unfold saveE; rw [if_neg (by omega), if_neg hl]
  clear hg0 HNO
  have hil : i < L.length := by
    rcases Nat.lt_or_ge i L.length with x | x
    · exact x
    · rw [List.getElem?_eq_none x] at hi; cases hi
  have a := sync_bd s hf
  have b := write_bd (syncE s).2 (G % 2) (secH G p) a.1
  have hC1 : ∀ w4 : World, Many B w4 L → B ≤ w4.heap.size → Calls Try.prog 27 #[.pointer (some ⟨g, 0, none⟩)] w4 fun e w' => e = .returned (.int .i64 (syncE s).1) ∧ Many B w' (L.set i (g, (syncE s).2)) ∧ Below B w4 w' ∧ BKA w4 w' := fun w4 m1 m2 => many_sync (i := i) m1 m2 hi hf (by omega)
  have hC2 : ∀ (w4 : World) (A3 : Option Addr) (c3 : Nat), Many B w4 (L.set i (g, (syncE s).2)) → B ≤ w4.heap.size → Bytes w4 A3 (secH G p) → Calls Try.prog 12 #[.pointer (some ⟨g, 0, none⟩), .int .i64 (G % 2), .slice A3 (secH G p).length c3] w4 fun e w' => e = .returned (.int .i64 (writeE (syncE s).2 (G % 2) (secH G p)).1) ∧ Many B w' (L.set i (g, (writeE (syncE s).2 (G % 2) (secH G p)).2)) ∧ Below B w4 w' ∧ BKA w4 w' := fun w4 A3 c3 m1 m2 m3 => by
    have := many_write (i := i) m1 m2 (List.getElem?_set_self hil) (G % 2) A3 (secH G p) c3 a.1 m3 (secH_oct G p ho) (by omega) (by rw [secH_len G p (by omega)]; decide)
    simp only [List.set_set] at this
    exact this
  have hC3 : ∀ w4 : World, Many B w4 (L.set i (g, (writeE (syncE s).2 (G % 2) (secH G p)).2)) → B ≤ w4.heap.size → Calls Try.prog 27 #[.pointer (some ⟨g, 0, none⟩)] w4 fun e w' => e = .returned (.int .i64 (syncE (writeE (syncE s).2 (G % 2) (secH G p)).2).1) ∧ Many B w' (L.set i (g, (syncE (writeE (syncE s).2 (G % 2) (secH G p)).2).2)) ∧ Below B w4 w' ∧ BKA w4 w' := fun w4 m1 m2 => by
    have := many_sync (i := i) m1 m2 (List.getElem?_set_self hil) b.1 (by omega)
    simp only [List.set_set] at this
    exact this
  have hCs : ∀ w4 : World, Cells w4 w4.heap.size A (U8 p) → Calls Try.prog 28 #[.agg #[.int .u64 G, .slice A p.length c]] w4 fun e w' => ∃ A3 c3, e = .returned (.slice A3 (secH G p).length c3) ∧ Bytes w' A3 (secH G p) ∧ Below w4.heap.size w4 w' := fun w4 m1 => by
    refine (msector_any G A p c w4 h0 h1 (by omega) m1).mono ?_
    rintro e w' ⟨v, rfl, hown, hBl⟩
    obtain ⟨A3, c3, rfl, _⟩ := hown.shape
    exact ⟨A3, c3, rfl, hown.bytes, hBl⟩
  clear a b
  obtain ⟨x1, hx1⟩ : ∃ x, (syncE s).1 = x := ⟨_, rfl⟩
  obtain ⟨s1, hs1⟩ : ∃ x, (syncE s).2 = x := ⟨_, rfl⟩
  rw [hx1, hs1] at hE
  simp only [hx1, hs1] at hC1 hC2 hC3
  obtain ⟨x2, hx2⟩ : ∃ x, (writeE s1 (G % 2) (secH G p)).1 = x := ⟨_, rfl⟩
  obtain ⟨s2, hs2⟩ : ∃ x, (writeE s1 (G % 2) (secH G p)).2 = x := ⟨_, rfl⟩
  rw [hx2, hs2] at hE
  simp only [hx2, hs2] at hC2 hC3
  obtain ⟨x3, hx3⟩ : ∃ x, (syncE s2).1 = x := ⟨_, rfl⟩
  obtain ⟨s3, hs3⟩ : ∃ x, (syncE s2).2 = x := ⟨_, rfl⟩
  rw [hx3, hs3] at hE
  simp only [hx3, hs3] at hC3
  have v1 : x1 = 0 ∨ x1 = 7 := by
    rw [← hx1]
    unfold syncE
    split
    · exact .inr rfl
    · split
      · exact .inr rfl
      · exact .inl rfl
  have v3 : x3 = 0 ∨ x3 = 7 := by
    rw [← hx3]
    unfold syncE
    split
    · exact .inr rfl
    · split
      · exact .inr rfl
      · exact .inl rfl
  have v2 : x2 = 0 ∨ x2 = 1 ∨ x2 = 7 := by
    rw [← hx2]
    unfold writeE
    split
    · exact .inr (.inr rfl)
    · split
      · exact .inr (.inl rfl)
      · split
        · exact .inr (.inr rfl)
        · exact .inl rfl
  clear hx1 hs1 hx2 hs2 hx3 hs3
  have HC1 := Lib.hid hC1
  have HC2 := Lib.hid hC2
  have HC3 := Lib.hid hC3
  have HCs := Lib.hid hCs
  clear hC1 hC2 hC3 hCs
  have hq : G.tmod 2 = G % 2 := Int.tmod_eq_emod_of_nonneg h0
  obtain ⟨q, hqq⟩ : ∃ q, G % 2 = q := ⟨_, rfl⟩
  rw [hqq] at hq HC2
  have hq0 : 0 ≤ q ∧ q < 2 := by omega
  have hq1 : IntKind.u64.wrap q = q := by rw [IntKind.wrap_u64]; omega
  have hq2 : IntKind.i64.wrap q = q := by rw [IntKind.wrap_i64]; omega
  have hB0 : B ≤ (w.alloc (.cells #[.int .u64 G, .slice A p.length c] 30)).heap.size := Nat.le_trans hB hb0.size
  have hBl0 : Below B w (w.alloc (.cells #[.int .u64 G, .slice A p.length c] 30)) := hb0.mono hB
  clear hqq hb0
  rcases v1 with rfl | rfl
  · rw [if_neg (by decide)] at hE
    by_cases e2 : x2 = 0
    · subst e2
      rw [if_neg (by decide)] at hE
      clear v2
      rcases v3 with rfl | rfl
      all_goals
          have HE := Lib.hid hE
          clear hE
          have tok1 : True := trivial
          go_enter Try.func10, Try.ntmps10
          go_wp2_with fail
          refine HSZ.out.mono ?_
          clear HSZ
          generalize w.alloc (.cells #[.int .u64 G, .slice A p.length c] 30) = W0 at *
          rintro e w1 ⟨rfl, rfl⟩
          have y0 : W0.cell? ⟨w.heap.size, 0, none⟩ = some (.int .u64 G) := hx0.cell 0
          have y1 : W0.cell? ⟨w.heap.size, 1, none⟩ = some (.slice A p.length c) := hx0.cell 1
          go_wp2
          go_region_held3 (fun w' => w'.cell? ⟨w.heap.size, 0, none⟩ = some (.int .u64 G) ∧ w'.cell? ⟨w.heap.size, 1, none⟩ = some (.slice A p.length c)) (go_keep)
          (first
            | (go_at_call 27; have _t := tok1; clear tok1; refine (HC1.out _ (by exact hM0.drew) (by exact hB0)).mono ?_; rintro e w4 ⟨rfl, hM4, hb4, hk4⟩; have hx4 := hk4.blk hx0.drew free_head; have p0 : w4.cell? ⟨w.heap.size, 0, none⟩ = some (.int .u64 G) := hx4.cell 0; have p1 : w4.cell? ⟨w.heap.size, 1, none⟩ = some (.slice A p.length c) := hx4.cell 1; have hp4 := hp w4 (hBl0.drew.trans hb4) (BKA.trans (b := W0.drew) hk0 hk4))
            | (go_at_call 28; refine (HCs.out _ (by exact hp4)).mono ?_; rintro e w5 ⟨A3, c3, rfl, hby5, hb5⟩; have hx5 := hx4.below hb5 hx4.lt; have p50 : w5.cell? ⟨w.heap.size, 0, none⟩ = some (.int .u64 G) := hx5.cell 0; have p51 : w5.cell? ⟨w.heap.size, 1, none⟩ = some (.slice A p.length c) := hx5.cell 1)
            | (go_at_call 12; refine (HC2.out _ _ _ (by exact hM4.below hb5) (by exact Nat.le_trans (Nat.le_trans hB0 hb4.size) hb5.size) (by exact hby5)).mono ?_; rintro e w6 ⟨rfl, hM6, hb6, hk6⟩; have hx6 := hk6.blk hx5 free_head; have p60 : w6.cell? ⟨w.heap.size, 0, none⟩ = some (.int .u64 G) := hx6.cell 0; have p61 : w6.cell? ⟨w.heap.size, 1, none⟩ = some (.slice A p.length c) := hx6.cell 1)
            | (go_at_call 27; refine (HC3.out _ (by exact hM6) (by exact Nat.le_trans (Nat.le_trans (Nat.le_trans hB0 hb4.size) hb5.size) hb6.size)).mono ?_; rintro e w7 ⟨rfl, hM7, hb7, hk7⟩; have hx7 := hk7.blk hx6 free_head; have p70 : w7.cell? ⟨w.heap.size, 0, none⟩ = some (.int .u64 G) := hx7.cell 0; have p71 : w7.cell? ⟨w.heap.size, 1, none⟩ = some (.slice A p.length c) := hx7.cell 1))
          all_goals
            go_wp2
            go_ret
            unfold SaveP
            rw [HE.out]
            first | rw [if_neg (by decide)] | rw [if_pos (by decide)]
            exact ⟨rfl, hM7, (((hBl0.drew.trans hb4).trans (hb5.mono (Nat.le_trans hB0 hb4.size))).trans hb6).trans hb7, (((BKA.trans (b := W0.drew) hk0 hk4).trans (BKA.of_below hb5)).trans hk6).trans hk7⟩
    · rw [if_pos e2] at hE
      have HE := Lib.hid hE
      clear hE HC3
      have v2' : x2 = 1 ∨ x2 = 7 := by omega
      clear v2 e2
      rcases v2' with rfl | rfl
      all_goals
        go_enter Try.func10, Try.ntmps10
        go_wp2_with fail
        refine HSZ.out.mono ?_
        clear HSZ
        generalize w.alloc (.cells #[.int .u64 G, .slice A p.length c] 30) = W0 at *
        rintro e w1 ⟨rfl, rfl⟩
        have y0 : W0.cell? ⟨w.heap.size, 0, none⟩ = some (.int .u64 G) := hx0.cell 0
        have y1 : W0.cell? ⟨w.heap.size, 1, none⟩ = some (.slice A p.length c) := hx0.cell 1
        go_wp2
        first
          | go_region_with
              (first
                | (go_at_call 27; refine (HC1.out _ (by exact hM0.drew) (by exact hB0)).mono ?_; rintro e w4 ⟨rfl, hM4, hb4, hk4⟩; have hx4 := hk4.blk hx0.drew free_head; have p0 : w4.cell? ⟨w.heap.size, 0, none⟩ = some (.int .u64 G) := hx4.cell 0; have p1 : w4.cell? ⟨w.heap.size, 1, none⟩ = some (.slice A p.length c) := hx4.cell 1; have hp4 := hp w4 (hBl0.drew.trans hb4) (BKA.trans (b := W0.drew) hk0 hk4))
                | (go_at_call 28; refine (HCs.out _ (by exact hp4)).mono ?_; rintro e w5 ⟨A3, c3, rfl, hby5, hb5⟩; have hx5 := hx4.below hb5 hx4.lt; have p50 : w5.cell? ⟨w.heap.size, 0, none⟩ = some (.int .u64 G) := hx5.cell 0; have p51 : w5.cell? ⟨w.heap.size, 1, none⟩ = some (.slice A p.length c) := hx5.cell 1)
                | (go_at_call 12; refine (HC2.out _ _ _ (by exact hM4.below hb5) (by exact Nat.le_trans (Nat.le_trans hB0 hb4.size) hb5.size) (by exact hby5)).mono ?_; rintro e w6 ⟨rfl, hM6, hb6, hk6⟩; have hx6 := hk6.blk hx5 free_head; have p60 : w6.cell? ⟨w.heap.size, 0, none⟩ = some (.int .u64 G) := hx6.cell 0; have p61 : w6.cell? ⟨w.heap.size, 1, none⟩ = some (.slice A p.length c) := hx6.cell 1))
          | fail
        all_goals
          go_wp2
          go_ret
          unfold SaveP
          rw [HE.out]
          exact ⟨rfl, hM6, ((hBl0.drew.trans hb4).trans (hb5.mono (Nat.le_trans hB0 hb4.size))).trans hb6, ((BKA.trans (b := W0.drew) hk0 hk4).trans (BKA.of_below hb5)).trans hk6⟩
  · rw [if_pos (by decide)] at hE
    have HE := Lib.hid hE
    clear hE HC2 HC3 HCs v2
    go_enter Try.func10, Try.ntmps10
    go_wp2_with fail
    refine HSZ.out.mono ?_
    clear HSZ
    generalize w.alloc (.cells #[.int .u64 G, .slice A p.length c] 30) = W0 at *
    rintro e w1 ⟨rfl, rfl⟩
    have y0 : W0.cell? ⟨w.heap.size, 0, none⟩ = some (.int .u64 G) := hx0.cell 0
    have y1 : W0.cell? ⟨w.heap.size, 1, none⟩ = some (.slice A p.length c) := hx0.cell 1
    go_wp2
    refine wp_region_any (by kernel_rfl) ?_
    change wpAny _ _ _ _ _ _ _ (World.drew _)
    refine wpAny_take (i := 0) (v := ?v0) rfl (by kernel_rfl) (by kernel_rfl) (by kernel_rfl) (fun _ _ _ h => h) (Or.inl ⟨by rfl, ?h0⟩) ?r0
    case h0 => (intro w; go_simp; try with_reducible rfl)
    simp only [Act.put, List.getElem_toArray, List.getElem_cons_zero, List.setIfInBounds_toArray, List.set_cons_succ, List.set_cons_zero]
    refine wpAny_ready (rs := [1]) (by kernel_rfl) (by simp) ?_
    refine AllReady.cons rfl (fun K hK => ?_) AllReady.nil
    go_simp
    go_wp2_with (go_at_call 27; refine (HC1.out _ (by exact hM0.drew) (by exact hB0)).mono ?_; rintro e w4 ⟨rfl, hM4, hb4, hk4⟩)
    refine wpAny_take (i := 2) (v := ?v2) rfl (by kernel_rfl) (by kernel_rfl) (by kernel_rfl) (fun _ _ _ h => h) (Or.inl ⟨by rfl, ?h2⟩) ?r2
    case h2 => (intro w; go_simp; try with_reducible rfl)
    simp only [Act.put, List.getElem_toArray, List.getElem_cons_succ, List.getElem_cons_zero, List.setIfInBounds_toArray, List.set_cons_succ, List.set_cons_zero]
    refine wpAny_take (i := 3) (v := ?v3) rfl (by kernel_rfl) (by kernel_rfl) (by kernel_rfl) (fun _ _ _ h => h) (Or.inl ⟨by rfl, ?h3⟩) ?r3
    case h3 => (intro w; go_simp; try with_reducible rfl)
    simp only [Act.put, List.getElem_toArray, List.getElem_cons_succ, List.getElem_cons_zero, List.setIfInBounds_toArray, List.set_cons_succ, List.set_cons_zero]
    refine wpAny_take (i := 4) (v := undef) rfl (by kernel_rfl) (by kernel_rfl) (by kernel_rfl) (fun _ _ _ h => h) (Or.inr ⟨by rfl, rfl⟩) ?_
    simp only [Act.put, List.getElem_toArray, List.getElem_cons_succ, List.getElem_cons_zero, List.setIfInBounds_toArray, List.set_cons_succ, List.set_cons_zero]
    refine wpAny_take (i := 5) (v := undef) rfl (by kernel_rfl) (by kernel_rfl) (by kernel_rfl) (fun _ _ _ h => h) (Or.inr ⟨by rfl, rfl⟩) ?_
    simp only [Act.put, List.getElem_toArray, List.getElem_cons_succ, List.getElem_cons_zero, List.setIfInBounds_toArray, List.set_cons_succ, List.set_cons_zero]
    refine wpAny_take (i := 6) (v := undef) rfl (by kernel_rfl) (by kernel_rfl) (by kernel_rfl) (fun _ _ _ h => h) (Or.inr ⟨by rfl, rfl⟩) ?_
    simp only [Act.put, List.getElem_toArray, List.getElem_cons_succ, List.getElem_cons_zero, List.setIfInBounds_toArray, List.set_cons_succ, List.set_cons_zero]
    refine wpAny_take (i := 7) (v := undef) rfl (by kernel_rfl) (by kernel_rfl) (by kernel_rfl) (fun _ _ _ h => h) (Or.inr ⟨by rfl, rfl⟩) ?_
    simp only [Act.put, List.getElem_toArray, List.getElem_cons_succ, List.getElem_cons_zero, List.setIfInBounds_toArray, List.set_cons_succ, List.set_cons_zero]
    refine wpAny_take (i := 8) (v := undef) rfl (by kernel_rfl) (by kernel_rfl) (by kernel_rfl) (fun _ _ _ h => h) (Or.inr ⟨by rfl, rfl⟩) ?_
    simp only [Act.put, List.getElem_toArray, List.getElem_cons_succ, List.getElem_cons_zero, List.setIfInBounds_toArray, List.set_cons_succ, List.set_cons_zero]
    refine wpAny_take (i := 9) (v := undef) rfl (by kernel_rfl) (by kernel_rfl) (by kernel_rfl) (fun _ _ _ h => h) (Or.inr ⟨by rfl, rfl⟩) ?_
    simp only [Act.put, List.getElem_toArray, List.getElem_cons_succ, List.getElem_cons_zero, List.setIfInBounds_toArray, List.set_cons_succ, List.set_cons_zero]
    refine wpAny_take (i := 10) (v := undef) rfl (by kernel_rfl) (by kernel_rfl) (by kernel_rfl) (fun _ _ _ h => h) (Or.inr ⟨by rfl, rfl⟩) ?_
    simp only [Act.put, List.getElem_toArray, List.getElem_cons_succ, List.getElem_cons_zero, List.setIfInBounds_toArray, List.set_cons_succ, List.set_cons_zero]
    refine wpAny_take (i := 11) (v := undef) rfl (by kernel_rfl) (by kernel_rfl) (by kernel_rfl) (fun _ _ _ h => h) (Or.inr ⟨by rfl, rfl⟩) ?_
    simp only [Act.put, List.getElem_toArray, List.getElem_cons_succ, List.getElem_cons_zero, List.setIfInBounds_toArray, List.set_cons_succ, List.set_cons_zero]
    refine wpAny_take (i := 12) (v := undef) rfl (by kernel_rfl) (by kernel_rfl) (by kernel_rfl) (fun _ _ _ h => h) (Or.inr ⟨by rfl, rfl⟩) ?_
    simp only [Act.put, List.getElem_toArray, List.getElem_cons_succ, List.getElem_cons_zero, List.setIfInBounds_toArray, List.set_cons_succ, List.set_cons_zero]
    refine wpAny_take (i := 13) (v := ?v13) rfl (by kernel_rfl) (by kernel_rfl) (by kernel_rfl) (fun _ _ _ h => h) (Or.inl ⟨by rfl, ?h13⟩) ?r13
    case h13 => (intro w; go_simp; try with_reducible rfl)
    simp only [Act.put, List.getElem_toArray, List.getElem_cons_succ, List.getElem_cons_zero, List.setIfInBounds_toArray, List.set_cons_succ, List.set_cons_zero]
    refine wpAny_take (i := 14) (v := ?v14) rfl (by kernel_rfl) (by kernel_rfl) (by kernel_rfl) (fun _ _ _ h => h) (Or.inl ⟨by rfl, ?h14⟩) ?r14
    case h14 => (intro w; go_simp; try with_reducible rfl)
    simp only [Act.put, List.getElem_toArray, List.getElem_cons_succ, List.getElem_cons_zero, List.setIfInBounds_toArray, List.set_cons_succ, List.set_cons_zero]
    refine wpAny_take (i := 15) (v := undef) rfl (by kernel_rfl) (by kernel_rfl) (by kernel_rfl) (fun _ _ _ h => h) (Or.inr ⟨by rfl, rfl⟩) ?_
    simp only [Act.put, List.getElem_toArray, List.getElem_cons_succ, List.getElem_cons_zero, List.setIfInBounds_toArray, List.set_cons_succ, List.set_cons_zero]
    refine wpAny_take (i := 16) (v := undef) rfl (by kernel_rfl) (by kernel_rfl) (by kernel_rfl) (fun _ _ _ h => h) (Or.inr ⟨by rfl, rfl⟩) ?_
    simp only [Act.put, List.getElem_toArray, List.getElem_cons_succ, List.getElem_cons_zero, List.setIfInBounds_toArray, List.set_cons_succ, List.set_cons_zero]
    refine wpAny_take (i := 17) (v := undef) rfl (by kernel_rfl) (by kernel_rfl) (by kernel_rfl) (fun _ _ _ h => h) (Or.inr ⟨by rfl, rfl⟩) ?_
    simp only [Act.put, List.getElem_toArray, List.getElem_cons_succ, List.getElem_cons_zero, List.setIfInBounds_toArray, List.set_cons_succ, List.set_cons_zero]
    refine wpAny_take (i := 18) (v := ?v18) rfl (by kernel_rfl) (by kernel_rfl) (by kernel_rfl) (fun _ _ _ h => h) (Or.inl ⟨by rfl, ?h18⟩) ?r18
    case h18 => (intro w; go_simp; try with_reducible rfl)
    simp only [Act.put, List.getElem_toArray, List.getElem_cons_succ, List.getElem_cons_zero, List.setIfInBounds_toArray, List.set_cons_succ, List.set_cons_zero]
    refine wpAny_take (i := 19) (v := ?v19) rfl (by kernel_rfl) (by kernel_rfl) (by kernel_rfl) (fun _ _ _ h => h) (Or.inl ⟨by rfl, ?h19⟩) ?r19
    case h19 => (intro w; go_simp; try with_reducible rfl)
    simp only [Act.put, List.getElem_toArray, List.getElem_cons_succ, List.getElem_cons_zero, List.setIfInBounds_toArray, List.set_cons_succ, List.set_cons_zero]
    refine wpAny_done (by kernel_rfl) ?_ _
    all_goals
      go_wp2
      go_ret
      unfold SaveP
      rw [HE.out]
      exact ⟨rfl, hM4, hBl0.drew.trans hb4, BKA.trans (b := W0.drew) hk0 hk4⟩
end
end Go.Proofs.Ytobdbkhjdhnooaa
