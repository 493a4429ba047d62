/-
  The contracts of node.Find and munimentref09.Find.
-/
import Derived.Test.YtbngcinhjoigaaaVc
set_option linter.unusedVariables false
namespace Go.Proofs.Ytbngcinhjoigaaa
open Go.RowKit

/-- Does the key stand at its place? -/
def fndB (ks : List (List Int)) (key : List Int) : Bool := decide (cntTo ks key ks.length < ks.length) && sameB (ks.getD (cntTo ks key ks.length) []) key

set_option maxHeartbeats 4000000 in
theorem rfind_any (lf : Bool) (Ak : Option Addr) (ks : List (List Int)) (ck : Nat) (Av : Option Addr) (nv cv : Nat) (Ai : Option Addr) (ni ci : Nat) (A2 : Option Addr) (key : List Int) (c2 : Nat) (w : World) (hK : RowsC w Ak ks) (hC : Cells w w.heap.size A2 (U8 key)) (hO : Oct key) (hl : ks.length ≤ 100000) (hlk : LenLe ks 100000) (hlx : key.length ≤ 100000) :
    Calls Try.prog 11 #[.agg #[.bool lf, .slice Ak ks.length ck, .slice Av nv cv, .slice Ai ni ci], .slice A2 key.length c2] w fun e w' => e = .returned (.tuple #[.int .i64 (cntTo ks key ks.length : Nat), .bool (fndB ks key)]) ∧ Below w.heap.size w w' := by
  have H0 : Hid (cntTo ks key 0 = 0) := Lib.hid rfl
  have HS : Hid (∀ k, cntTo ks key (k + 1) = cntTo ks key k + if lessB (ks.getD k []) key = true then 1 else 0) := Lib.hid (fun k => rfl)
  have HL := Lib.hid (cntTo_le ks key)
  have HR : Hid (fndB ks key = (decide (cntTo ks key ks.length < ks.length) && sameB (ks.getD (cntTo ks key ks.length) []) key)) := Lib.hid rfl
  generalize fndB ks key = R at *
  generalize cntTo ks key = ct at *
  have hF := Four.new w (.bool lf) (.slice Ak ks.length ck) (.slice Av nv cv) (.slice Ai ni ci) 29
  have hB0 : Below w.heap.size w (w.alloc (.cells #[.bool lf, .slice Ak ks.length ck, .slice Av nv cv, .slice Ai ni ci] 29)) := (Below.refl _ _).alloc (Nat.le_refl _) _
  have hwz : (w.alloc (.cells #[.bool lf, .slice Ak ks.length ck, .slice Av nv cv, .slice Ai ni ci] 29)).heap.size = w.heap.size + 1 := by simp
  have HF := Lib.hid hF
  have HB0 := Lib.hid hB0
  have HWZ := Lib.hid hwz
  clear hF hB0 hwz
  go_enter Try.func11, Try.ntmps11
  go_wp2
  go_loopw [6, 7] (fun s i wr => ∃ k : Nat, i = .int .i64 k ∧ k ≤ ks.length ∧ s = .int .i64 (ct k : Nat) ∧ Below (w.heap.size + 1) (w.alloc (.cells #[.bool lf, .slice Ak ks.length ck, .slice Av nv cv, .slice Ai ni ci] 29)) wr)
    (fun _ i _ => ks.length - (intOf i).toNat)
  case atStart => exact ⟨0, rfl, Nat.zero_le _, by rw [H0.out]; rfl, Below.refl _ _⟩
  case round =>
    obtain ⟨k, rfl, hk, rfl, hB⟩ := hrel
    have hs : w.heap.size + 1 ≤ wr.heap.size := by have := hB.size; rw [HWZ.out] at this; exact this
    have hBw : Below w.heap.size w wr := HB0.out.trans (hB.mono (Nat.le_succ _))
    obtain ⟨c0, c1, c3, c4⟩ := HF.out.below hB (Nat.lt_succ_self _)
    have hck := HL.out k
    by_cases hlt : k < ks.length
    · have hkI : (k : Int) < (ks.length : Int) := by omega
      obtain ⟨b, off, A', c, rfl, hb, hc, hcl, hoc, _⟩ := (hK.below hBw) k hlt
      have hxl := hlk.at_ hlt
      have HG : Hid (ks.getD k [] = ks[k]) := Lib.hid (getD_at hlt)
      generalize ks[k] = x at *
      have HC : Hid (Calls Try.prog 24 #[.slice A' x.length c, .slice A2 key.length c2] wr fun e w' => e = .returned (.bool (lessB x key)) ∧ Below wr.heap.size wr w') := Lib.hid (less_b A' A2 x key c c2 wr hcl (hC.below hBw).whole (by omega) (by omega) hoc hO)
      have HE := HS.out k
      rw [HG.out] at HE
      cases hx : lessB x key with
      | true =>
        rw [hx] at HC HE
        have HE' := Lib.hid HE
        clear hx HE
        go_wp2_with (go_at_call 24; refine HC.out.mono ?_; rintro e w2 ⟨rfl, hb2⟩)
        go_roundw
        case rel => exact ⟨k + 1, by go_num, by omega, by rw [HE'.out]; go_num, hB.trans (hb2.mono hs)⟩
        case measure => simp [intOf]; omega
      | false =>
        rw [hx] at HC HE
        have HE' := Lib.hid HE
        clear hx HE
        go_wp2_with (go_at_call 24; refine HC.out.mono ?_; rintro e w2 ⟨rfl, hb2⟩)
        go_roundw
        case rel => exact ⟨k + 1, by go_num, by omega, by rw [HE'.out]; go_num, hB.trans (hb2.mono hs)⟩
        case measure => simp [intOf]; omega
    · have hke : k = ks.length := by omega
      subst hke
      generalize hct : ct ks.length = m at *
      have HCT := Lib.hid hct
      clear hct
      by_cases hm : m < ks.length
      · have hmI : (m : Int) < (ks.length : Int) := by omega
        obtain ⟨b, off, A', c, rfl, hb, hc, hcl, hoc, _⟩ := (hK.below hBw) m hm
        have hxl := hlk.at_ hm
        have HR' : Hid (R = sameB ks[m] key) := Lib.hid (by rw [HR.out, getD_at hm, decide_eq_true hm, Bool.true_and])
        clear HR
        generalize ks[m] = x at *
        have HC : Hid (Calls Try.prog 14 #[.slice A' x.length c, .slice A2 key.length c2] wr fun e w' => e = .returned (.bool (sameB x key)) ∧ Below wr.heap.size wr w') := Lib.hid (same_b A' A2 x key c c2 wr hcl (hC.below hBw).whole (by omega))
        rw [← HR'.out] at HC
        clear HR'
        go_wp2_with (go_at_call 14; refine HC.out.mono ?_; rintro e w2 ⟨rfl, hb2⟩)
        go_ret2
        exact ⟨by rw [HCT.out]; rfl, hBw.trans (hb2.mono hBw.size)⟩
      · have hmI : ¬ (m : Int) < (ks.length : Int) := by omega
        have HR' : Hid (R = false) := Lib.hid (by rw [HR.out, decide_eq_false hm, Bool.false_and])
        clear HR
        go_wp2
        go_ret2
        exact ⟨by rw [HR'.out, HCT.out]; rfl, hBw⟩

set_option maxRecDepth 8000 in
set_option maxHeartbeats 8000000 in
theorem find_any (lf : Bool) (Ak : Option Addr) (ks : List (List Int)) (ck : Nat) (Av : Option Addr) (nv cv : Nat) (Ai : Option Addr) (ni ci : Nat) (A2 : Option Addr) (key : List Int) (c2 : Nat) (w : World) (hK : RowsC w Ak ks) (hC : Cells w w.heap.size A2 (U8 key)) (hO : Oct key) (hl : ks.length ≤ 100000) :
    Calls Try.prog 10 #[.agg #[.bool lf, .slice Ak ks.length ck, .slice Av nv cv, .slice Ai ni ci], .slice A2 key.length c2] w fun e w' => e = .returned (.tuple #[.int .i64 (cntTo ks key ks.length : Nat), .bool (fndB ks key)]) ∧ Below w.heap.size w w' := by
  have H0 : Hid (cntTo ks key 0 = 0) := Lib.hid rfl
  have HS : Hid (∀ k, cntTo ks key (k + 1) = cntTo ks key k + if lessB (ks.getD k []) key = true then 1 else 0) := Lib.hid (fun k => rfl)
  have HL := Lib.hid (cntTo_le ks key)
  have HR : Hid (fndB ks key = (decide (cntTo ks key ks.length < ks.length) && sameB (ks.getD (cntTo ks key ks.length) []) key)) := Lib.hid rfl
  have HQ : Hid (∀ i, i ≤ ks.length → (∀ t, t < i → lessB (ks.getD t []) key = true) → (∀ t, i ≤ t → t < ks.length → lessB (ks.getD t []) key = false) → cntTo ks key ks.length = i) := Lib.hid fun i h1 h2 h3 => by
    rw [cntTo_rest h1 h3, cntTo_all h2]
  generalize fndB ks key = R at *
  generalize cntTo ks key = ct at *
  obtain ⟨W, hW⟩ : ∃ W, W = (w.alloc (.cells #[.bool lf, .slice Ak ks.length ck, .slice Av nv cv, .slice Ai ni ci] 25)).alloc (.cells #[.slice A2 key.length c2] 26) := ⟨_, rfl⟩
  have hWz : W.heap.size = w.heap.size + 2 := by rw [hW]; simp
  have hF : Four W w.heap.size (.bool lf) (.slice Ak ks.length ck) (.slice Av nv cv) (.slice Ai ni ci) := by
    have := (Four.new w (.bool lf) (.slice Ak ks.length ck) (.slice Av nv cv) (.slice Ai ni ci) 25).below (B := w.heap.size + 1) ((Below.refl _ _).alloc (by simp) (.cells #[.slice A2 key.length c2] 26)) (Nat.lt_succ_self _)
    rw [hW]; exact this
  have hG : W.cell? ⟨w.heap.size + 1, 0, none⟩ = some (.slice A2 key.length c2) := by rw [hW]; exact (Blk.second w _ _ _).cell 0
  have hB0 : Below w.heap.size w W := by rw [hW]; exact ((Below.refl _ _).alloc (Nat.le_refl _) _).alloc (by simp) _
  have hKW := hK.below hB0
  have hCW := (hC.below hB0).whole
  have HSO := Lib.hid (sorted_any Ak ks ck W hKW (by omega))
  have HF1 : Hid (∀ (t : Nat) (w' : World), t < ks.length → Below W.heap.size W w' → Calls Try.prog 23 #[.int .i64 t, .pointer (some ⟨w.heap.size, 0, none⟩), .pointer (some ⟨w.heap.size + 1, 0, none⟩)] w' fun e w'' => e = .returned (.bool (!lessB (ks.getD t []) key)) ∧ Below w'.heap.size w' w'') := Lib.hid fun t w' ht hb =>
    find1_any t w.heap.size (w.heap.size + 1) lf Ak ks ck Av nv cv Ai ni ci A2 key c2 w' (hF.below hb (by omega)) ((hb.cell (p := ⟨w.heap.size + 1, 0, none⟩) (by show w.heap.size + 1 < _; omega)).trans hG) (by have := hb.size; omega) (by have := hb.size; omega) (hKW.below hb) (hCW.below hb).whole hO ht
  clear hK hC
  have HW := Lib.hid hW
  clear hW
  go_enter Try.func10, Try.ntmps10
  go_wp2_with fail
  rw [← HW.out]
  refine HSO.out.mono ?_
  rintro e w1 ⟨r, rfl, hr, hb1⟩
  have hB1 := hB0.trans (hb1.mono (by omega))
  have hF1 := hF.below hb1 (by omega)
  have hG1 := (hb1.cell (p := ⟨w.heap.size + 1, 0, none⟩) (by show w.heap.size + 1 < _; omega)).trans hG
  have hK1 := hKW.below hb1
  have hC1 := (hCW.below hb1).whole
  have hs1 := hb1.size
  cases r with
  | false =>
    clear hr HF1 HSO HQ
    obtain ⟨c0, c1, c3, c4⟩ := hF1
    have HW1 := Lib.hid hB1
    clear hb1 hB1 hF hB0 hKW hCW
    go_wp2
    go_loopw [6, 17] (fun s i wr => ∃ k : Nat, i = .int .i64 k ∧ k ≤ ks.length ∧ s = .int .i64 (ct k : Nat) ∧ wr = w1)
      (fun _ i _ => ks.length - (intOf i).toNat)
    case atStart => exact ⟨0, rfl, Nat.zero_le _, by rw [H0.out]; rfl, rfl⟩
    case round =>
      obtain ⟨k, rfl, hk, rfl, rfl⟩ := hrel
      have hck := HL.out k
      by_cases hlt : k < ks.length
      · have hkI : (k : Int) < (ks.length : Int) := by omega
        obtain ⟨b, off, A', c, rfl, hb, hc, hcl, hoc, _⟩ := hK1 k hlt
        have HG : Hid (ks.getD k [] = ks[k]) := Lib.hid (getD_at hlt)
        generalize ks[k] = x at *
        have HC := Lib.hid (bytes_compare A' A2 x key c c2 wr hcl hC1 hoc hO)
        have HE := HS.out k
        rw [HG.out] at HE
        rcases cmpB_cases x key with ⟨e1, e2⟩ | ⟨e1, _, e2⟩ | ⟨e1, _, e2⟩
        all_goals
          rw [e2] at HC
          rw [e1] at HE
          have HE' := Lib.hid HE
          clear e1 e2 HE
          go_wp2_with (go_at_call 20; refine HC.out.mono ?_; rintro e w2 ⟨rfl, rfl⟩)
          go_roundw
          case rel => exact ⟨k + 1, by go_num, by omega, (by rw [HE'.out]; go_num), trivial⟩
          case measure => simp [intOf]; omega
      · have hke : k = ks.length := by omega
        subst hke
        generalize hct : ct ks.length = m at *
        have HCT := Lib.hid hct
        clear hct
        by_cases hm : m < ks.length
        · have hmI : (m : Int) < (ks.length : Int) := by omega
          obtain ⟨b, off, A', c, rfl, hb, hc, hcl, hoc, _⟩ := hK1 m hm
          have HR' : Hid (R = sameB ks[m] key) := Lib.hid (by rw [HR.out, getD_at hm, decide_eq_true hm, Bool.true_and])
          clear HR
          generalize ks[m] = x at *
          have HC : Hid (∀ n, Calls Try.prog 21 #[.slice A' x.length c, .slice A2 key.length c2] (wr.drewN n) fun e w'' => e = .returned (.bool R) ∧ w'' = wr.drewN n) := Lib.hid fun n => by
            rw [HR'.out]
            exact (bytes_equal A' A2 x key c c2 _ (hcl.drewN n) (hC1.drewN n) hoc hO).mono fun _ _ ⟨h1, h2⟩ => ⟨h1, h2.symm⟩
          go_wp2
          go_quiet (first | (go_at_call 21; exact Calls.quiet_of_same (HC.out _)))
          go_wp2
          go_ret2
          exact ⟨by rw [HCT.out]; rfl, below_drewN HW1.out _⟩
        · have hmI : ¬ (m : Int) < (ks.length : Int) := by omega
          have HR' : Hid (R = false) := Lib.hid (by rw [HR.out, decide_eq_false hm, Bool.false_and])
          clear HR
          go_wp2
          go_quiet (fail)
          go_wp2
          go_ret2
          exact ⟨by rw [HR'.out, HCT.out]; rfl, below_drewN HW1.out _⟩
  | true =>
    have HSE := Lib.hid (search_any ks.length (fun t => lessB (ks.getD t []) key) w.heap.size (w.heap.size + 1) w1 (by omega) (fun j hj hp i hi => (hr rfl).less hj hp i hi) (fun t w' ht hb => HF1.out t w' ht (hb1.trans (hb.mono hs1))))
    clear hr
    obtain ⟨c0, c1, c3, c4⟩ := hF1
    go_wp2_with fail
    refine HSE.out.mono ?_
    rintro e w2 ⟨i, rfl, hin, hi1, hi2, hb2⟩
    have HCT := Lib.hid (HQ.out i hin hi1 hi2)
    clear hi1 hi2
    have HBB := Lib.hid (hB1.trans (hb2.mono hB1.size))
    have d1 : w2.cell? ⟨w.heap.size, 1, none⟩ = some (.slice Ak ks.length ck) := (hb2.cell (p := ⟨w.heap.size, 1, none⟩) (by show w.heap.size < _; omega)).trans c1
    have d2 : w2.cell? ⟨w.heap.size + 1, 0, none⟩ = some (.slice A2 key.length c2) := (hb2.cell (p := ⟨w.heap.size + 1, 0, none⟩) (by show w.heap.size + 1 < _; omega)).trans hG1
    have hK2 := hK1.below hb2
    have hC2 := (hC1.below hb2).whole
    clear c0 c1 c3 c4 hG1 hK1 hC1 hb1 hB1 hF hB0 hKW hCW hb2 HSE HF1 HSO HQ
    by_cases hm : i < ks.length
    · have hmI : (i : Int) < (ks.length : Int) := by omega
      obtain ⟨b, off, A', c, rfl, hb, hc, hcl, hoc, _⟩ := hK2 i hm
      have HR' : Hid (R = sameB ks[i] key) := Lib.hid (by rw [HR.out, HCT.out, getD_at hm, decide_eq_true hm, Bool.true_and])
      clear HR
      generalize ks[i] = x at *
      have HC : Hid (∀ n, Calls Try.prog 21 #[.slice A' x.length c, .slice A2 key.length c2] (w2.drewN n) fun e w'' => e = .returned (.bool R) ∧ w'' = w2.drewN n) := Lib.hid fun n => by
        rw [HR'.out]
        exact (bytes_equal A' A2 x key c c2 _ (hcl.drewN n) (hC2.drewN n) hoc hO).mono fun _ _ ⟨h1, h2⟩ => ⟨h1, h2.symm⟩
      go_wp2
      go_quiet (first | (go_at_call 21; exact Calls.quiet_of_same (HC.out _)))
      go_wp2
      go_ret2
      exact ⟨by rw [HCT.out]; rfl, below_drewN HBB.out _⟩
    · have hmI : ¬ (i : Int) < (ks.length : Int) := by omega
      have HR' : Hid (R = false) := Lib.hid (by rw [HR.out, HCT.out, decide_eq_false hm, Bool.false_and])
      clear HR
      go_wp2
      go_quiet (fail)
      go_wp2
      go_ret2
      exact ⟨by rw [HR'.out, HCT.out]; rfl, below_drewN HBB.out _⟩
end Go.Proofs.Ytbngcinhjoigaaa
