/-
  The reference's Open and Save, in step with the program's.
-/
import Derived.Test.YtobdbkhjdhnooaaNa
import Derived.Test.YtobdbkhjdhnooaaEf
import Derived.Test.YtobdbkhjdhnooaaMc
set_option linter.unusedVariables false
namespace Go.Proofs.Ytobdbkhjdhnooaa
open Go.RowKit

theorem KR.setNew {w w' : World} {g : Nat} (h : KR w w') (hn : w.heap.size ≤ g) (i : Nat) (v : Value) : KR w (w'.setCell ⟨g, i, none⟩ v) :=
  ⟨h.os, h.tape, h.output, Nat.le_trans h.size (by simp [World.setCell]), fun k hk hne => (Below.heap_setCell w' ⟨g, i, none⟩ v k (by show k ≠ g; omega)).trans (h.block k hk hne)⟩
theorem Blk.neT {w : World} {g g' : Nat} {t t' : TypeId} {cs cs' : Array Value} {mk : Nat × Nat} (h : Blk w g t cs) (h' : w.heap[g']? = some (.cells cs' t' mk)) (hne : t' ≠ t) : g' ≠ g := fun e => by
  subst e
  unfold Blk at h
  rw [h] at h'
  injection h' with h'
  injection h' with _ h'
  exact hne h'.symm
theorem RefAt.setT {w : World} {B g g' i : Nat} {r : RS} {t : TypeId} {cs : Array Value} (h : RefAt w B g r) (hb : Blk w g' t cs) (h1 : t ≠ 58) (h2 : t ≠ 84) (h8 : t ≠ 5) (v : Value) : RefAt (w.setCell ⟨g', i, none⟩ v) B g r := by
  obtain ⟨vp, ps, h⟩ := h
  have hg : ∀ k, k ≠ g' → (w.setCell ⟨g', i, none⟩ v).heap[k]? = w.heap[k]? := fun k hk => Below.heap_setCell w ⟨g', i, none⟩ v k hk
  have hs : w.heap.size ≤ (w.setCell ⟨g', i, none⟩ v).heap.size := by simp [World.setCell]
  refine ⟨vp, ps, (hg g (hb.neT h.blk (fun e => h1 e.symm))).trans h.blk, h.base, ⟨h.row.1, ?_⟩, h.pend.keep (fun k cur mk hk => hg k (hb.neT hk (fun e => h8 e.symm))) hs⟩
  rcases h.row.2 with hr | ⟨b, cap, cur, e', hb', hh, rest⟩
  · exact .inl hr
  · exact .inr ⟨b, cap, cur, e', hb', (hg b (hb.neT hh (fun e => h2 e.symm))).trans hh, rest⟩
theorem maxH_ge (x y : Int × List Int) (h : y.1 ≤ x.1) : maxH x y = x := if_neg (by omega)

/-- What the reference's Open answers. -/
def ROpenP (B gr k : Nat) (s : DS) (w : World) (e : Ending) (w' : World) : Prop :=
  ∃ A c r', e = .returned (.tuple #[.agg #[.int .u64 (openH s).1, .slice A (openH s).2.length c], .int .i64 (openE s)]) ∧ Bytes w' A (openH s).2 ∧ RefAt w' B gr r' ∧ St (k + 2) (openS s) r' ∧ KR w w' ∧ Below B w w'

set_option maxHeartbeats 8000000 in
theorem ropen_any {B gr k : Nat} {s : DS} {r : RS} {w : World} (hR : RefAt w B gr r) (hS : St k s r) (hk : k ≤ 1000) (hl0 : (rd s 0).length = 256 ∧ Oct (rd s 0)) (hl1 : (rd s 1).length = 256 ∧ Oct (rd s 1)) :
    Calls Try.prog 23 #[.pointer (some ⟨gr, 0, none⟩)] w (ROpenP B gr k s w) := by
  have hBw : B ≤ w.heap.size := by
    obtain ⟨vp, ps, h⟩ := hR
    exact Nat.le_trans h.base (Nat.le_of_lt h.blk.lt)
  have hx0 : Blk (w.alloc (.cells #[.int .u64 0, .slice none 0 0] 44)) w.heap.size 44 #[.int .u64 0, .slice none 0 0] := Blk.new w _ _
  have hb0 : Below w.heap.size w (w.alloc (.cells #[.int .u64 0, .slice none 0 0] 44)) := (Below.refl _ _).alloc (Nat.le_refl _) _
  have hR0 := hR.below hb0
  have hK0 := KR.of_below hb0
  have hsz0 : (w.alloc (.cells #[.int .u64 0, .slice none 0 0] 44)).cell? ⟨gr, 0, none⟩ = some (.int .i64 s.size) := by
    obtain ⟨vp, ps, h⟩ := hR0
    rw [← hS.sim.size]
    exact h.blk.cell 0
  by_cases hsz : s.size < 2
  · have HF : Hid (ROpenP B gr k s w (.returned (.tuple #[.agg #[.int .u64 0, .slice none 0 0], .int .i64 1])) ((w.alloc (.cells #[.int .u64 0, .slice none 0 0] 44)))) := Lib.hid (by
      unfold ROpenP openH openE openS
      rw [if_pos hsz, if_pos hsz, if_pos hsz]
      exact ⟨none, 0, r, rfl, Bytes.none _, hR0, hS.mono (by omega), hK0, hb0.mono hBw⟩)
    go_enter Try.func23, Try.ntmps23
    go_wp2
    exact bodyPost_ret (v := .tuple #[.agg #[.int .u64 0, .slice none 0 0], .int .i64 1]) (by simp [results, Try.results23, go_sem]) rfl HF.out
  have hC : ∀ (w4 : World) (s' : DS) (r' : RS) (k' : Nat) (n : Int), k' ≤ 2000 → RefAt w4 B gr r' → St k' s' r' → Calls Try.prog 37 #[.pointer (some ⟨gr, 0, none⟩), .int .i64 n] w4 fun e w' => ∃ A c r2, e = .returned (.tuple #[.slice A (readL s' n).length c, .int .i64 (readE s' n).1]) ∧ (readL s' n).length ≤ c ∧ c ≤ 9223372036854775807 ∧ Bytes w' A (readL s' n) ∧ RefAt w' B gr r2 ∧ St (k' + 1) (readE s' n).2 r2 ∧ KR w4 w' ∧ Below B w4 w' := fun w4 s' r' k' n hk' m1 m2 => by
    obtain ⟨a1, a2, a3⟩ := m2.read n
    refine (rread_any B gr r' n w4 m1 (by have := m2.len; omega)).mono ?_
    rintro e w' ⟨A, c, rfl, b1, b2, b3, b4, b5, b6⟩
    rw [a3] at b1 b5
    rw [a3, a1]
    exact ⟨A, c, _, rfl, b5, b6, b1, b2, a2, b3, b4⟩
  have HC := Lib.hid hC
  clear hC
  by_cases hd : s.down = true
  · have e0 : ∀ n, readE s n = (7, s) := fun n => by unfold readE; rw [if_pos hd]
    have l0 : ∀ n, readL s n = [] := fun n => by unfold readL; rw [e0]; rfl
    have hc0 := HC.out _ s r k 0 (by omega) hR0 hS
    have hc1 := fun w4 r' => HC.out w4 s r' (k + 1) 1
    rw [e0, l0] at hc0
    simp only [e0, l0] at hc1
    have HF : Hid (∀ (w' : World) (r' : RS), RefAt w' B gr r' → St (k + 2) s r' → KR w w' → Below B w w' → ROpenP B gr k s w (.returned (.tuple #[.agg #[.int .u64 0, .slice none 0 0], .int .i64 7])) w') := Lib.hid fun w' r' m1 m2 m3 m4 => by
      unfold ROpenP openH openE openS open2
      rw [if_neg hsz, if_neg hsz, if_neg hsz, e0]
      simp only [e0]
      exact ⟨none, 0, r', rfl, Bytes.none _, m1, m2, m3, m4⟩
    have HC0 := Lib.hid hc0
    have HC1 := Lib.hid hc1
    clear e0 l0 hc0 hc1 HC
    go_enter Try.func23, Try.ntmps23
    go_wp2_with fail
    refine HC0.out.mono ?_
    clear HC0 hsz0
    have hbw : Below B w (w.alloc (.cells #[.int .u64 0, .slice none 0 0] 44)) := hb0.mono hBw
    generalize w.alloc (.cells #[.int .u64 0, .slice none 0 0] 44) = W0 at *
    rintro e w1 ⟨A1, c1, r1, rfl, _, _, _, hR1, hS1, hk1, hb1⟩
    have hx1 := hk1.blk hx0 (by decide) (by decide)
    go_wp2_with fail
    refine (HC1.out w1 r1 (by omega) hR1 hS1).mono ?_
    rintro e w2 ⟨A2, c2, r2, rfl, _, _, _, hR2, hS2, hk2, hb2⟩
    have hx2 := hk2.blk hx1 (by decide) (by decide)
    have u0 : w2.cell? ⟨w.heap.size, 0, none⟩ = some (.int .u64 0) := hx2.cell 0
    have u1 : w2.cell? ⟨w.heap.size, 1, none⟩ = some (.slice none 0 0) := hx2.cell 1
    have z0 := hx2.free 0
    have z1 := hx2.free 1
    go_wp2
    have hW := (hx2.set_ 0 (.int .u64 0)).set_ 1 (.slice none 0 0)
    have hfin := HF.out _ r2 ((hR2.setT (i := 0) hx2 (by decide) (by decide) (by decide) (.int .u64 0)).setT (i := 1) (hx2.set_ 0 _) (by decide) (by decide) (by decide) (.slice none 0 0)) hS2 ((((hK0.trans hk1).trans hk2).setNew (Nat.le_refl _) 0 _).setNew (Nat.le_refl _) 1 _) (below_two ((hbw.trans hb1).trans hb2) hBw _ _)
    exact bodyPost_ret (v := .tuple #[.agg #[.int .u64 0, .slice none 0 0], .int .i64 7]) (by simp [results, Try.results23, go_sem, hW.cell]) rfl hfin
  · have e0 : ∀ (s' : DS) n, s'.down = s.down → s'.size = s.size → 0 ≤ n → n < 2 → readE s' n = (0, { s' with a0 := wrap64 (s'.a0 + 1) }) := fun s' n h1 h2 h3 h4 => by unfold readE; rw [h1, h2, if_neg hd, if_neg (by omega)]
    have r0 := e0 s 0 rfl rfl (by decide) (by decide)
    have r1 := e0 { s with a0 := wrap64 (s.a0 + 1) } 1 rfl rfl (by decide) (by decide)
    have l0 : readL s 0 = rd s 0 := by unfold readL; rw [r0]; rfl
    have l1 : readL { s with a0 := wrap64 (s.a0 + 1) } 1 = rd s 1 := by unfold readL; rw [r1]; rfl
    have hc0 := HC.out _ s r k 0 (by omega) hR0 hS
    have hc1 := fun w4 r' => HC.out w4 { s with a0 := wrap64 (s.a0 + 1) } r' (k + 1) 1
    rw [r0, l0] at hc0
    simp only [r1, l1] at hc1
    have HF : Hid (∀ (w' : World) (A : Option Addr) (c : Nat) (r' : RS) (x : Int × List Int), maxH (headOf (rd s 0)) (headOf (rd s 1)) = x → Bytes w' A x.2 → RefAt w' B gr r' → St (k + 2) (open2 s) r' → KR w w' → Below B w w' → ROpenP B gr k s w (.returned (.tuple #[.agg #[.int .u64 x.1, .slice A x.2.length c], .int .i64 0])) w') := Lib.hid fun w' A c r' x hx m0 m1 m2 m3 m4 => by
      unfold ROpenP openH openE openS
      rw [if_neg hsz, if_neg hsz, if_neg hsz, r0]
      simp only [r1]
      rw [if_neg (by decide), if_neg (by decide), hx]
      exact ⟨A, c, r', rfl, m0, m1, m2, m3, m4⟩
    have ho2 : open2 s = { s with a0 := wrap64 (wrap64 (s.a0 + 1) + 1) } := by unfold open2; rw [r0]; simp only [r1]
    rw [ho2] at HF
    have HC0 := Lib.hid hc0
    have HC1 := Lib.hid hc1
    clear e0 l0 hc0 hc1 HC r0 r1 l1 ho2
    obtain ⟨a, ha⟩ : ∃ a, rd s 0 = a := ⟨_, rfl⟩
    obtain ⟨b, hb⟩ : ∃ b, rd s 1 = b := ⟨_, rfl⟩
    rw [ha] at hl0 HF HC0
    rw [hb] at hl1 HF HC1
    clear ha hb
    have hH0 := headOf_bd a hl0.2 hl0.1
    have hH1 := headOf_bd b hl1.2 hl1.1
    have HLa := Lib.hid hl0.1
    have HLb := Lib.hid hl1.1
    have hoa := hl0.2
    have hob := hl1.2
    have HEa := Lib.hid (rheadOf_eq a hl0.1 hl0.2)
    have HEb := Lib.hid (rheadOf_eq b hl1.1 hl1.2)
    clear hl0 hl1
    go_enter Try.func23, Try.ntmps23
    go_wp2_with fail
    refine HC0.out.mono ?_
    clear HC0 hsz0
    have hbw : Below B w (w.alloc (.cells #[.int .u64 0, .slice none 0 0] 44)) := hb0.mono hBw
    generalize w.alloc (.cells #[.int .u64 0, .slice none 0 0] 44) = W0 at *
    rintro e w1 ⟨A1, c1, r1, rfl, hcc1, hcm1, hby1, hR1, hS1, hk1, hb1⟩
    have hx1 := hk1.blk hx0 (by decide) (by decide)
    go_wp2_with fail
    refine (HC1.out w1 r1 (by omega) hR1 hS1).mono ?_
    rintro e w2 ⟨A2, c2, r2, rfl, hcc2, hcm2, hby2, hR2, hS2, hk2, hb2⟩
    have hx2 := hk2.blk hx1 (by decide) (by decide)
    have hby1' := hby1.keep hk2.bk
    obtain ⟨b1, o1, rfl, _, _⟩ := hby1'.1.form (fun x => by have := congrArg List.length x; rw [List.length_map, HLa.out] at this; cases this)
    obtain ⟨b2, o2, rfl, _, _⟩ := hby2.1.form (fun x => by have := congrArg List.length x; rw [List.length_map, HLb.out] at this; cases this)
    go_wp2_with fail
    refine (rhead_any b1 o1 c1 a w2 HLa.out hby1' hoa hcc1 hcm1).mono ?_
    rintro e w3 ⟨A3, c3, rfl, hby3, hb3⟩
    have hx3 := hx2.below hb3 hx2.lt
    go_wp2_with fail
    refine (rhead_any b2 o2 c2 b w3 HLb.out (hby2.keep (BK.of_below hb3)) hob hcc2 hcm2).mono ?_
    rintro e w4 ⟨A4, c4, rfl, hby4, hb4⟩
    have hx4 := hx3.below hb4 hx3.lt
    have hby3' := hby3.keep (BK.of_below hb4)
    have hR4 := (hR2.below hb3).below hb4
    have hBB4 : Below B w w4 := (((hbw.trans hb1).trans hb2).trans (hb3.mono (Nat.le_trans hBw (Nat.le_trans hb0.size (Nat.le_trans hb1.size hb2.size))))).trans (hb4.mono (Nat.le_trans hBw (Nat.le_trans hb0.size (Nat.le_trans hb1.size (Nat.le_trans hb2.size hb3.size)))))
    have hK4 := ((hK0.trans hk1).trans hk2).trans ((KR.of_below hb3).trans (KR.of_below hb4))
    clear hby1 hby1' hby2 hby3 hR1 hR2 hb1 hb2 hb3 hb4 hk1 hk2 hx1 hx2 hx3 hR0 hR hS1
    rw [HEa.out] at hby3'
    rw [HEb.out] at hby4
    rw [HEa.out, HEb.out]
    obtain ⟨x, hx⟩ : ∃ x, headOf a = x := ⟨_, rfl⟩
    obtain ⟨y, hy⟩ : ∃ y, headOf b = y := ⟨_, rfl⟩
    rw [hx] at hby3' hH0 HF
    rw [hy] at hby4 hH1 HF
    rw [hx, hy]
    clear hx hy
    obtain ⟨gx, px⟩ := x
    obtain ⟨gy, py⟩ := y
    simp only at hby3' hby4 hH0 hH1
    have hl4 := hx4.lt
    have u0 : w4.cell? ⟨w.heap.size, 0, none⟩ = some (.int .u64 0) := hx4.cell 0
    have u1 : w4.cell? ⟨w.heap.size, 1, none⟩ = some (.slice none 0 0) := hx4.cell 1
    have z0 := hx4.free 0
    have z1 := hx4.free 1
    have hfin5 : ∀ (A : Option Addr) (c : Nat) (z : Int × List Int), maxH (gx, px) (gy, py) = z → Bytes w4 A z.2 → ROpenP B gr k s w (.returned (.tuple #[.agg #[.int .u64 z.1, .slice A z.2.length c], .int .i64 0])) ((((w4.setCell ⟨w.heap.size, 0, none⟩ (.int .u64 z.1)).setCell ⟨w.heap.size, 1, none⟩ (.slice A z.2.length c)).alloc (.cells #[.int .u64 gx, .slice A3 px.length c3] 44)).alloc (.cells #[.int .u64 gy, .slice A4 py.length c4] 44)) := fun A c z hz hby => by
      have hR5 := (hR4.setT (i := 0) hx4 (by decide) (by decide) (by decide) (.int .u64 z.1)).setT (i := 1) (hx4.set_ 0 _) (by decide) (by decide) (by decide) (.slice A z.2.length c)
      have hBB5 := below_two hBB4 hBw (.int .u64 z.1) (.slice A z.2.length c)
      have hK5 := (hK4.setNew (Nat.le_refl _) 0 (.int .u64 z.1)).setNew (Nat.le_refl _) 1 (.slice A z.2.length c)
      have hbk : BK w4 ((w4.setCell ⟨w.heap.size, 0, none⟩ (.int .u64 z.1)).setCell ⟨w.heap.size, 1, none⟩ (.slice A z.2.length c)) := fun j cur mk hj => by
        have hne := hx4.neT hj (by decide)
        rw [Below.heap_setCell _ _ _ _ (by exact hne), Below.heap_setCell _ _ _ _ (by exact hne)]
      have hY5 := hby.keep hbk
      generalize (w4.setCell ⟨w.heap.size, 0, none⟩ (.int .u64 z.1)).setCell ⟨w.heap.size, 1, none⟩ (.slice A z.2.length c) = W5 at *
      have hb6 : Below W5.heap.size W5 ((W5.alloc (.cells #[.int .u64 gx, .slice A3 px.length c3] 44)).alloc (.cells #[.int .u64 gy, .slice A4 py.length c4] 44)) := ((Below.refl _ _).alloc (Nat.le_refl _) _).alloc (by simp) _
      exact HF.out _ A c r2 z hz (hY5.keep (BK.of_below hb6)) (hR5.below hb6) hS2 (hK5.trans (KR.of_below hb6)) (hBB5.trans (hb6.mono (Nat.le_trans hBw hBB5.size)))
    have HF5 := Lib.hid hfin5
    clear hfin5 HF
    by_cases hlt : gx < gy
    · have HX : Hid (maxH (gx, px) (gy, py) = (gy, py)) := Lib.hid (if_pos hlt)
      go_wp2
      have hW := (((hx4.set_ 0 (.int .u64 gy)).set_ 1 (.slice A4 py.length c4)).alloc (.cells #[.int .u64 gx, .slice A3 px.length c3] 44)).alloc (.cells #[.int .u64 gy, .slice A4 py.length c4] 44)
      exact bodyPost_ret (v := .tuple #[.agg #[.int .u64 gy, .slice A4 py.length c4], .int .i64 0]) (by simp [results, Try.results23, go_sem, hW.cell]) rfl (HF5.out A4 c4 (gy, py) HX.out hby4)
    · have HX : Hid (maxH (gx, px) (gy, py) = (gx, px)) := Lib.hid (if_neg hlt)
      have hge : gy ≤ gx := by omega
      go_wp2
      have hW := (((hx4.set_ 0 (.int .u64 gx)).set_ 1 (.slice A3 px.length c3)).alloc (.cells #[.int .u64 gx, .slice A3 px.length c3] 44)).alloc (.cells #[.int .u64 gy, .slice A4 py.length c4] 44)
      exact bodyPost_ret (v := .tuple #[.agg #[.int .u64 gx, .slice A3 px.length c3], .int .i64 0]) (by simp [results, Try.results23, go_sem, hW.cell]) rfl (HF5.out A3 c3 (gx, px) HX.out hby3')
end Go.Proofs.Ytobdbkhjdhnooaa
