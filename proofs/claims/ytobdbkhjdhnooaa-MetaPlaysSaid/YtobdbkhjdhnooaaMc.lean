/-
  The contract of meta.Open.
-/
import Derived.Test.YtobdbkhjdhnooaaMb
set_option linter.unusedVariables false
namespace Go.Proofs.Ytobdbkhjdhnooaa
open Go.RowKit

/-- What Open answers. -/
def OpenP (B : Nat) (L : List (Nat × DS)) (i g : Nat) (s : DS) (w : World) (e : Ending) (w' : World) : Prop :=
  ∃ A c, e = .returned (.tuple #[.agg #[.int .u64 (openH s).1, .slice A (openH s).2.length c], .int .i64 (openE s)]) ∧ Bytes w' A (openH s).2 ∧ Many B w' (L.set i (g, openS s)) ∧ Below B w w' ∧ BKA w w'
theorem set_self {α : Type} {L : List α} {i : Nat} {x : α} (hi : L[i]? = some x) : L.set i x = L := by
  apply List.ext_getElem?
  intro j
  rw [List.getElem?_set]
  split
  · rename_i e
    subst e
    rw [hi]
    split
    · rfl
    · rename_i hlt
      rw [List.getElem?_eq_none (by omega)] at hi
      cases hi
  · rfl
theorem below_two {B g : Nat} {w w' : World} (h : Below B w w') (hg : B ≤ g) (a b : Value) : Below B w ((w'.setCell ⟨g, 0, none⟩ a).setCell ⟨g, 1, none⟩ b) :=
  (h.setCell (p := ⟨g, 0, none⟩) hg a).setCell (p := ⟨g, 1, none⟩) hg b
theorem BKA.two {w w' : World} {g : Nat} {cs : Array Value} (h : BKA w w') (hg : Blk w' g 30 cs) (hn : w.heap.size ≤ g) (a b : Value) : BKA w ((w'.setCell ⟨g, 0, none⟩ a).setCell ⟨g, 1, none⟩ b) := fun k cur t mk ht hk => by
  have hlt : k < w.heap.size := by
    rcases Nat.lt_or_ge k w.heap.size with x | x
    · exact x
    · rw [Array.getElem?_eq_none x] at hk; cases hk
  rw [Below.heap_setCell _ _ _ _ (by show k ≠ g; omega), Below.heap_setCell _ _ _ _ (by show k ≠ g; omega)]
  exact h k cur t mk ht hk
theorem BK.two {w w' : World} {g : Nat} {cs : Array Value} (h : BK w w') (hg : Blk w' g 30 cs) (a b : Value) : BK w ((w'.setCell ⟨g, 0, none⟩ a).setCell ⟨g, 1, none⟩ b) := fun k cur mk hk => by
  have h1 := h k cur mk hk
  have hne : k ≠ g := fun e => by
    subst e
    unfold Blk at hg
    rw [h1, hk] at hg
    injection hg with hg
    injection hg with _ hg
    exact absurd hg (by decide)
  rw [Below.heap_setCell _ _ _ _ (by show k ≠ g; exact hne), Below.heap_setCell _ _ _ _ (by show k ≠ g; exact hne)]
  exact h1
theorem Many.two {B g : Nat} {w : World} {L : List (Nat × DS)} {cs : Array Value} (h : Many B w L) (hg : Blk w g 30 cs) (a b : Value) : Many B ((w.setCell ⟨g, 0, none⟩ a).setCell ⟨g, 1, none⟩ b) L := by
  obtain ⟨F, h1, h2⟩ := h
  refine ⟨F, fun j gd s e => ⟨?_, (h1 j gd s e).2⟩, h2⟩
  have hc : Chg w ((w.setCell ⟨g, 0, none⟩ a).setCell ⟨g, 1, none⟩ b) (fun k => k = g) := (Chg.setCell w ⟨g, 0, none⟩ a).trans (Chg.setCell _ ⟨g, 1, none⟩ b) fun i hi => .inl hi
  refine (h1 j gd s e).1.chg hc (fun k hF hk => ?_) (fun k cur mk hk hh => ?_)
  · have hk : k = g := hk
    subst hk
    exact (h1 j gd s e).1.notT k cs _ (0, 0) free_head hF hg
  · have hk : k = g := hk
    subst hk
    unfold Blk at hg
    rw [hg] at hh
    injection hh with hh
    injection hh with _ hh
    exact absurd hh (by decide)

theorem many_readc {B : Nat} {w : World} {L : List (Nat × DS)} (h : Many B w L) (hB : B ≤ w.heap.size) {i g : Nat} {s : DS} (hi : L[i]? = some (g, s)) (n : Int) :
    Calls Try.prog 14 #[.pointer (some ⟨g, 0, none⟩), .int .i64 n] w fun e w' => ∃ A c, e = .returned (.tuple #[.slice A (readL s n).length c, .int .i64 (readE s n).1]) ∧ (readL s n).length ≤ c ∧ c ≤ 9223372036854775807 ∧ Bytes w' A (readL s n) ∧ Many B w' (L.set i (g, (readE s n).2)) ∧ Below B w w' ∧ BKA w w' := by
  obtain ⟨F, h1, h2⟩ := h
  refine (read_w g s (F i) n w (h1 i g s hi).1).mono ?_
  rintro e w' ⟨v, rfl, hown, hO⟩
  obtain ⟨m1, m2, m3⟩ := Many.act h1 h2 hB hi hO
  obtain ⟨A, c, rfl, hc, hcm, _⟩ := hown.shape
  unfold maxLen at hcm
  exact ⟨A, c, rfl, hc, by omega, hown.bytes, m1, m2, m3⟩

section
variable {B : Nat} {w : World} {L : List (Nat × DS)} (h : Many B w L) (hB : B ≤ w.heap.size) {i g : Nat} {s : DS} (hi : L[i]? = some (g, s))
include h hB hi
set_option maxHeartbeats 8000000 in
theorem many_open : Calls Try.prog 11 #[.pointer (some ⟨g, 0, none⟩)] w (OpenP B L i g s w) := by
  have hx0 : Blk (w.alloc (.cells #[.int .u64 0, .slice none 0 0] 30)) w.heap.size 30 #[.int .u64 0, .slice none 0 0] := Blk.new w _ _
  have hb0 : Below w.heap.size w (w.alloc (.cells #[.int .u64 0, .slice none 0 0] 30)) := (Below.refl _ _).alloc (Nat.le_refl _) _
  have hM0 := h.below hb0
  have hk0 := BKA.of_below hb0
  have HSZ := Lib.hid (many_size (i := i) hM0 hi)
  by_cases hsz : s.size < 2
  · have HF : Hid (OpenP B L i g s w (.returned (.tuple #[.agg #[.int .u64 0, .slice none 0 0], .int .i64 1])) ((w.alloc (.cells #[.int .u64 0, .slice none 0 0] 30)))) := Lib.hid (by
      unfold OpenP openH openE openS
      rw [if_pos hsz, if_pos hsz, if_pos hsz, set_self hi]
      exact ⟨none, 0, rfl, Bytes.none _, hM0, hb0.mono hB, hk0⟩)
    go_enter Try.func11, Try.ntmps11
    go_wp2_with fail
    refine HSZ.out.mono ?_
    rintro e w1 ⟨rfl, rfl⟩
    go_wp2
    exact bodyPost_ret (v := .tuple #[.agg #[.int .u64 0, .slice none 0 0], .int .i64 1]) (by simp [results, Try.results11, go_sem]) rfl HF.out
  have hil : i < L.length := by
    rcases Nat.lt_or_ge i L.length with x | x
    · exact x
    · rw [List.getElem?_eq_none x] at hi; cases hi
  have hC : ∀ (w4 : World) (s' : DS) (n : Int), Many B w4 (L.set i (g, s')) → B ≤ w4.heap.size → Calls Try.prog 14 #[.pointer (some ⟨g, 0, none⟩), .int .i64 n] w4 fun e w' => ∃ A c, e = .returned (.tuple #[.slice A (readL s' n).length c, .int .i64 (readE s' n).1]) ∧ (readL s' n).length ≤ c ∧ c ≤ 9223372036854775807 ∧ Bytes w' A (readL s' n) ∧ Many B w' (L.set i (g, (readE s' n).2)) ∧ Below B w4 w' ∧ BKA w4 w' := fun w4 s' n m1 m2 => by
    have := many_readc (i := i) m1 m2 (List.getElem?_set_self hil) n
    simp only [List.set_set] at this
    exact this
  have HC := Lib.hid hC
  clear hC
  have hM0' : Many B (w.alloc (.cells #[.int .u64 0, .slice none 0 0] 30)) (L.set i (g, s)) := by rw [set_self hi]; exact hM0
  have hB0 : B ≤ (w.alloc (.cells #[.int .u64 0, .slice none 0 0] 30)).heap.size := Nat.le_trans hB hb0.size
  have hl0 := many_len h hi 0
  have hl1 := many_len h hi 1
  have hbw : Below B w (w.alloc (.cells #[.int .u64 0, .slice none 0 0] 30)) := hb0.mono hB
  have hsz0 : w.heap.size < (w.alloc (.cells #[.int .u64 0, .slice none 0 0] 30)).heap.size := hx0.lt
  by_cases hd : s.down = true
  · have e0 : ∀ n, readE s n = (7, s) := fun n => by unfold readE; rw [if_pos hd]
    have l0 : ∀ n, readL s n = [] := fun n => by unfold readL; rw [e0]; rfl
    have hc0 := HC.out _ s 0 hM0' hB0
    have hc1 := fun w4 => HC.out w4 s 1
    rw [e0, l0] at hc0
    simp only [e0, l0] at hc1
    have HF : Hid (∀ w' : World, Many B w' (L.set i (g, s)) → Below B w w' → BKA w w' → OpenP B L i g s w (.returned (.tuple #[.agg #[.int .u64 0, .slice none 0 0], .int .i64 7])) w') := Lib.hid fun w' m1 m2 m3 => by
      unfold OpenP openH openE openS open2
      rw [if_neg hsz, if_neg hsz, if_neg hsz, e0]
      simp only [e0]
      exact ⟨none, 0, rfl, Bytes.none _, m1, m2, m3⟩
    have HC0 := Lib.hid hc0
    have HC1 := Lib.hid hc1
    clear e0 l0 hc0 hc1 HC
    go_enter Try.func11, Try.ntmps11
    go_wp2_with fail
    refine HSZ.out.mono ?_
    clear HSZ
    rintro e w1 ⟨rfl, rfl⟩
    go_wp2_with fail
    refine HC0.out.mono ?_
    clear HC0
    generalize w.alloc (.cells #[.int .u64 0, .slice none 0 0] 30) = W0 at *
    rintro e w1 ⟨A1, c1, rfl, _, _, _, hM1, hb1, hk1⟩
    have hx1 := hk1.blk hx0 free_head
    go_wp2_with fail
    refine (HC1.out w1 hM1 (Nat.le_trans hB0 hb1.size)).mono ?_
    rintro e w2 ⟨A2, c2, rfl, _, _, _, hM2, hb2, hk2⟩
    have hx2 := hk2.blk hx1 free_head
    have u0 : w2.cell? ⟨w.heap.size, 0, none⟩ = some (.int .u64 0) := hx2.cell 0
    have u1 : w2.cell? ⟨w.heap.size, 1, none⟩ = some (.slice none 0 0) := hx2.cell 1
    have z0 := hx2.free 0
    have z1 := hx2.free 1
    go_wp2
    have hW := (hx2.set_ 0 (.int .u64 0)).set_ 1 (.slice none 0 0)
    have hfin := HF.out _ (hM2.two hx2 (.int .u64 0) (.slice none 0 0)) (below_two ((hbw.trans hb1).trans hb2) hB _ _) (BKA.two ((hk0.trans hk1).trans hk2) hx2 (Nat.le_refl _) _ _)
    exact bodyPost_ret (v := .tuple #[.agg #[.int .u64 0, .slice none 0 0], .int .i64 7]) (by simp [results, Try.results11, go_sem, hW.cell]) rfl hfin
  · have e0 : ∀ (s' : DS) n, s'.down = s.down → s'.size = s.size → 0 ≤ n → n < 2 → readE s' n = (0, { s' with a0 := wrap64 (s'.a0 + 1) }) := fun s' n h1 h2 h3 h4 => by unfold readE; rw [h1, h2, if_neg hd, if_neg (by omega)]
    have r0 := e0 s 0 rfl rfl (by decide) (by decide)
    have r1 := e0 { s with a0 := wrap64 (s.a0 + 1) } 1 rfl rfl (by decide) (by decide)
    have l0 : readL s 0 = rd s 0 := by unfold readL; rw [r0]; rfl
    have l1 : readL { s with a0 := wrap64 (s.a0 + 1) } 1 = rd s 1 := by unfold readL; rw [r1]; rfl
    have hc0 := HC.out _ s 0 hM0' hB0
    have hc1 := fun w4 => HC.out w4 { s with a0 := wrap64 (s.a0 + 1) } 1
    rw [r0, l0] at hc0
    simp only [r1, l1] at hc1
    have HF : Hid (∀ (w' : World) (A : Option Addr) (c : Nat) (x : Int × List Int), maxH (headOf (rd s 0)) (headOf (rd s 1)) = x → Bytes w' A x.2 → Many B w' (L.set i (g, open2 s)) → Below B w w' → BKA w w' → OpenP B L i g s w (.returned (.tuple #[.agg #[.int .u64 x.1, .slice A x.2.length c], .int .i64 0])) w') := Lib.hid fun w' A c x hx m0 m1 m2 m3 => by
      unfold OpenP openH openE openS
      rw [if_neg hsz, if_neg hsz, if_neg hsz, r0]
      simp only [r1]
      rw [if_neg (by decide), if_neg (by decide), hx]
      exact ⟨A, c, rfl, m0, m1, m2, m3⟩
    have ho2 : open2 s = { s with a0 := wrap64 (wrap64 (s.a0 + 1) + 1) } := by unfold open2; rw [r0]; simp only [r1]
    rw [ho2] at HF
    have HC0 := Lib.hid hc0
    have HC1 := Lib.hid hc1
    clear e0 l0 hc0 hc1 HC r0 r1 l1 ho2
    obtain ⟨a, ha⟩ : ∃ a, rd s 0 = a := ⟨_, rfl⟩
    obtain ⟨b, hb⟩ : ∃ b, rd s 1 = b := ⟨_, rfl⟩
    rw [ha] at hl0 HF HC0
    rw [hb] at hl1 HF HC1
    clear ha hb
    have hH0 := headOf_bd a hl0.2 hl0.1
    have hH1 := headOf_bd b hl1.2 hl1.1
    have HLa := Lib.hid hl0.1
    have HLb := Lib.hid hl1.1
    have hoa := hl0.2
    have hob := hl1.2
    clear hl0 hl1
    go_enter Try.func11, Try.ntmps11
    go_wp2_with fail
    refine HSZ.out.mono ?_
    clear HSZ
    rintro e w1 ⟨rfl, rfl⟩
    go_wp2_with fail
    refine HC0.out.mono ?_
    clear HC0
    generalize w.alloc (.cells #[.int .u64 0, .slice none 0 0] 30) = W0 at *
    rintro e w1 ⟨A1, c1, rfl, hcc1, hcm1, hby1, hM1, hb1, hk1⟩
    have hx1 := hk1.blk hx0 free_head
    go_wp2_with fail
    refine (HC1.out w1 hM1 (Nat.le_trans hB0 hb1.size)).mono ?_
    rintro e w2 ⟨A2, c2, rfl, hcc2, hcm2, hby2, hM2, hb2, hk2⟩
    have hx2 := hk2.blk hx1 free_head
    have hby1' := hby1.keep hk2.b
    obtain ⟨b1, o1, rfl, _, _⟩ := hby1'.1.form (fun x => by have := congrArg List.length x; rw [List.length_map, HLa.out] at this; cases this)
    obtain ⟨b2, o2, rfl, _, _⟩ := hby2.1.form (fun x => by have := congrArg List.length x; rw [List.length_map, HLb.out] at this; cases this)
    go_wp2_with fail
    refine (mread_any b1 o1 c1 a w2 HLa.out hby1' hoa hcc1 hcm1).mono ?_
    rintro e w3 ⟨A3, c3, rfl, hby3, _, _, hb3⟩
    have hx3 := hx2.below hb3 hx2.lt
    go_wp2_with fail
    refine (mread_any b2 o2 c2 b w3 HLb.out (hby2.keep (BK.of_below hb3)) hob hcc2 hcm2).mono ?_
    rintro e w4 ⟨A4, c4, rfl, hby4, _, _, hb4⟩
    have hx4 := hx3.below hb4 hx3.lt
    have hby3' := hby3.keep (BK.of_below hb4)
    have hM4 := (hM2.below hb3).below hb4
    have hBB4 : Below B w w4 := (((hbw.trans hb1).trans hb2).trans (hb3.mono (Nat.le_trans (Nat.le_trans hB0 hb1.size) hb2.size))).trans (hb4.mono (Nat.le_trans (Nat.le_trans (Nat.le_trans hB0 hb1.size) hb2.size) hb3.size))
    have hK4 := ((hk0.trans hk1).trans hk2).trans ((BKA.of_below hb3).trans (BKA.of_below hb4))
    clear hby1 hby1' hby2 hby3 hM1 hM2 hb1 hb2 hb3 hb4 hk1 hk2 hx1 hx2 hx3
    obtain ⟨x, hx⟩ : ∃ x, headOf a = x := ⟨_, rfl⟩
    obtain ⟨y, hy⟩ : ∃ y, headOf b = y := ⟨_, rfl⟩
    rw [hx] at hby3' hH0 HF
    rw [hy] at hby4 hH1 HF
    rw [hx, hy]
    clear hx hy
    obtain ⟨gx, px⟩ := x
    obtain ⟨gy, py⟩ := y
    simp only at hby3' hby4 hH0 hH1
    have hl4 := hx4.lt
    have hfin5 : ∀ (A : Option Addr) (c : Nat) (z : Int × List Int), maxH (gx, px) (gy, py) = z → Bytes w4 A z.2 → OpenP B L i g s w (.returned (.tuple #[.agg #[.int .u64 z.1, .slice A z.2.length c], .int .i64 0])) ((((w4.setCell ⟨w.heap.size, 0, none⟩ (.int .u64 z.1)).setCell ⟨w.heap.size, 1, none⟩ (.slice A z.2.length c)).alloc (.cells #[.int .u64 gx, .slice A3 px.length c3] 30)).alloc (.cells #[.int .u64 gy, .slice A4 py.length c4] 30)) := fun A c z hz hby => by
      have hM5 := hM4.two hx4 (.int .u64 z.1) (.slice A z.2.length c)
      have hBB5 := below_two hBB4 hB (.int .u64 z.1) (.slice A z.2.length c)
      have hK5 := BKA.two hK4 hx4 (Nat.le_refl _) (.int .u64 z.1) (.slice A z.2.length c)
      have hY5 := hby.keep (BK.two (fun _ _ _ _ => rfl) hx4 (.int .u64 z.1) (.slice A z.2.length c))
      generalize (w4.setCell ⟨w.heap.size, 0, none⟩ (.int .u64 z.1)).setCell ⟨w.heap.size, 1, none⟩ (.slice A z.2.length c) = W5 at *
      have hb6 : Below W5.heap.size W5 ((W5.alloc (.cells #[.int .u64 gx, .slice A3 px.length c3] 30)).alloc (.cells #[.int .u64 gy, .slice A4 py.length c4] 30)) := ((Below.refl _ _).alloc (Nat.le_refl _) _).alloc (by simp) _
      exact HF.out _ A c z hz (hY5.keep (BK.of_below hb6)) (hM5.below hb6) (hBB5.trans (hb6.mono (Nat.le_trans hB hBB5.size))) (hK5.trans (BKA.of_below hb6))
    have HF5 := Lib.hid hfin5
    clear hfin5 HF
    have u0 : w4.cell? ⟨w.heap.size, 0, none⟩ = some (.int .u64 0) := hx4.cell 0
    have u1 : w4.cell? ⟨w.heap.size, 1, none⟩ = some (.slice none 0 0) := hx4.cell 1
    have z0 := hx4.free 0
    have z1 := hx4.free 1
    by_cases hlt : gx < gy
    · have HX : Hid (maxH (gx, px) (gy, py) = (gy, py)) := Lib.hid (if_pos hlt)
      go_wp2
      have hW := (((hx4.set_ 0 (.int .u64 gy)).set_ 1 (.slice A4 py.length c4)).alloc (.cells #[.int .u64 gx, .slice A3 px.length c3] 30)).alloc (.cells #[.int .u64 gy, .slice A4 py.length c4] 30)
      exact bodyPost_ret (v := .tuple #[.agg #[.int .u64 gy, .slice A4 py.length c4], .int .i64 0]) (by simp [results, Try.results11, go_sem, hW.cell]) rfl (HF5.out A4 c4 (gy, py) HX.out hby4)
    · have HX : Hid (maxH (gx, px) (gy, py) = (gx, px)) := Lib.hid (if_neg hlt)
      go_wp2
      have hW := (((hx4.set_ 0 (.int .u64 gx)).set_ 1 (.slice A3 px.length c3)).alloc (.cells #[.int .u64 gx, .slice A3 px.length c3] 30)).alloc (.cells #[.int .u64 gy, .slice A4 py.length c4] 30)
      exact bodyPost_ret (v := .tuple #[.agg #[.int .u64 gx, .slice A3 px.length c3], .int .i64 0]) (by simp [results, Try.results11, go_sem, hW.cell]) rfl (HF5.out A3 c3 (gx, px) HX.out hby3')
end
end Go.Proofs.Ytobdbkhjdhnooaa
