/-
  DiskFuse: the walk.
-/
import Derived.Test.YtaimohidpppfeaaDh
set_option linter.unusedVariables false
namespace Go.Proofs.Ytaimohidpppfeaa
open Go.RowKit

/-- The disk with a fuse of n, k writes done. -/
def fS (n : Nat) : Nat → DS
  | 0 => { newDS 300 with fuse := n }
  | k + 1 => wroteS (burnS (fS n k)) k (secL 1)
structure FS (n k : Nat) (s : DS) : Prop where
  size : s.size = 300
  fuse : s.fuse = (n : Int) - k
  down : s.down = false
  pend : s.pend.length = k
  lasts : s.lasts = fun _ => none
  keys : ∀ q ∈ s.pend, q.1 < k
theorem fs (n : Nat) : ∀ k, k ≤ n → FS n k (fS n k)
  | 0, _ => ⟨(by decide : (newDS 300).size = 300), by simp [fS], rfl, rfl, rfl, fun q h => by cases h⟩
  | k + 1, hk => by
    have ih := fs n k (by omega)
    have hf := ih.fuse
    have hb : burnS (fS n k) = { fS n k with fuse := (fS n k).fuse - 1 } := by
      unfold burnS
      rw [if_neg (by omega), if_pos (by omega)]
    simp only [fS, hb]
    refine ⟨ih.size, ?_, ih.down, ?_, ih.lasts, ?_⟩
    · show (fS n k).fuse - 1 = _
      rw [hf]; push_cast; omega
    · simp [wroteS, ih.pend]
    · intro q hq
      simp only [wroteS, List.mem_append, List.mem_singleton] at hq
      rcases hq with hq | hq
      · have := ih.keys q hq; push_cast; omega
      · rw [hq]; push_cast; show (k : Int) < _; omega
theorem applyW_none (c : Int → Option (List Int)) (qs : List (Int × List Int)) (j : Int) (h : ∀ q ∈ qs, q.1 ≠ j) : applyW c qs j = c j := by
  induction qs generalizing c with
  | nil => rfl
  | cons q r ih =>
    show applyW (updC c q.1 q.2) r j = c j
    rw [ih _ (fun x hx => h x (by simp [hx]))]
    unfold updC
    rw [if_neg (fun e => h q (by simp) e.symm)]
theorem keptW_sub {α : Type} (qs : List α) (keep : List Bool) (k : Nat) : ∀ q ∈ keptW qs keep k, q ∈ qs := fun q hq => by
  unfold keptW at hq
  obtain ⟨x, hx, rfl⟩ := List.mem_map.1 hq
  have := (List.mem_filter.1 hx).1
  have := List.fst_mem_of_mem_zipIdx this
  exact List.mem_of_mem_take this
/-- The same, its fuse burnt. -/
def fD (n : Nat) : DS := { fS n n with down := true }
theorem fD_burn (n : Nat) : burnS (fS n n) = fD n := by
  have hf := (fs n n (Nat.le_refl _)).fuse
  unfold burnS fD
  rw [if_pos (by omega)]
/-- The second loop's disks. -/
def gS (n : Nat) : Nat → DS
  | 0 => fS n n
  | _ + 1 => fD n
theorem write_ok (n k : Nat) (hk : k < n) (hn : n ≤ 255) : writeE (fS n k) k (secL 1) = (0, fS n (k + 1)) := by
  have h := fs n k (by omega)
  have := h.fuse
  unfold writeE
  rw [if_neg (by rw [h.down]; decide), if_neg (by rw [h.size, secL_len]; omega), if_neg (by omega)]
  rfl
theorem write_no (n k : Nat) : writeE (gS n k) 299 (secL 1) = (7, gS n (k + 1)) := by
  have h := fs n n (Nat.le_refl _)
  have := h.fuse
  rcases k with _ | k
  · show writeE (fS n n) 299 (secL 1) = (7, fD n)
    unfold writeE
    rw [if_neg (by rw [h.down]; decide), if_neg (by rw [h.size, secL_len]; decide), if_pos (by omega), fD_burn]
  · unfold writeE gS
    rw [if_pos (by rfl)]
theorem gS_fuse (n k : Nat) : (gS n k).fuse = 0 ∧ (gS n k).pend.length = n ∧ (gS n k).size = 300 := by
  have h := fs n n (Nat.le_refl _)
  have := h.fuse
  rcases k with _ | k
  · exact ⟨by show (fS n n).fuse = 0; omega, h.pend, h.size⟩
  · exact ⟨by show (fS n n).fuse = 0; omega, h.pend, h.size⟩

theorem DiskAt.bk {w w' : World} {g : Nat} {s : DS} {F : Nat → Prop} (h : DiskAt w g s F) (hc : Chg w w' F) : BK w w' := by
  obtain ⟨p, h, hF⟩ := h
  exact h.bytes (hc.mono fun i _ hi => (hF i).1 hi)

set_option maxHeartbeats 2000000 in
theorem fuse_walk (a b : Int) (w : World) (h0 : 0 ≤ a) (h1 : a ≤ 255) (h2 : 0 ≤ b) (h3 : b ≤ 255) :
    Calls Try.prog 5 #[.int .u8 a, .int .u8 b] w fun e w' => e = .returned (.bool true) ∧ Below w.heap.size w w' := by
  obtain ⟨n, rfl⟩ := Int.eq_ofNat_of_zero_le h0
  obtain ⟨m, hm⟩ := Int.eq_ofNat_of_zero_le (show 0 ≤ b % 4 by omega)
  have hm4 : b % 4 ≤ 3 := by omega
  go_enter Try.func5, Try.ntmps5
  go_wp2_with fail
  refine (awake_any w).mono ?_
  rintro e w1 ⟨rfl, hb1⟩
  go_wp2_with fail
  refine (new_w 300 w1).mono ?_
  rintro e w2 ⟨g, F, rfl, hD, hF, hb2⟩
  have hF2 : ∀ k, F k → w.heap.size ≤ k := fun k hk => Nat.le_trans hb1.size (hF k hk)
  have hB2 : Below w.heap.size w w2 := hb1.trans (hb2.mono hb1.size)
  clear hb1 hb2 hF
  go_wp2_with fail
  refine (fuse_w g _ F n w2 hD).mono ?_
  rintro e w3 ⟨rfl, hO⟩
  obtain ⟨F3, hD3, hF3, hb3⟩ := DiskAt.quiet hF2 hB2.size hO
  have hB3 := hB2.trans hb3
  have e0 : { newDS 300 with fuse := max (n : Int) (-1) } = fS n 0 := by
    have hmx : max (n : Int) (-1) = n := by omega
    rw [hmx]
    rfl
  rw [e0] at hD3
  clear hB2 hb3 hO hF2 hD e0
  go_wp2
  go_loopw [6] (fun i wr => ∃ (k : Nat) (Fk : Nat → Prop), i = .int .i64 k ∧ k ≤ n ∧ DiskAt wr g (fS n k) Fk ∧ (∀ j, Fk j → w.heap.size ≤ j) ∧ Below w.heap.size w wr)
    (fun i _ => n - (intOf i).toNat)
  case atStart => exact ⟨0, F3, rfl, by omega, hD3, hF3, hB3⟩
  case round =>
    obtain ⟨k, Fk, rfl, hk, hDk, hFk, hBk⟩ := hrel
    by_cases hlt : k < n
    · have hgk : (k : Int) < (n : Int) := by omega
      go_wp2_with fail
      refine (sector_any 1 wr).mono ?_
      rintro e w4 ⟨rfl, hs4, hb4⟩
      have hD4 := hDk.below hb4
      have hB4 := hBk.trans (hb4.mono hBk.size)
      have hby := Own.sec hs4
      clear hs4
      have hq := fs n k hk
      have hw := write_w g (fS n k) Fk k _ (secL 1) 256 w4 hD4 (by have := hq.fuse; omega) hby (secL_oct 1) (by have := hq.pend; omega) (by rw [secL_len]; decide)
      rw [secL_len, write_ok n k hlt (by omega)] at hw
      clear hq hby
      go_wp2_with fail
      refine hw.mono ?_
      rintro e w5 ⟨rfl, hO⟩
      obtain ⟨F5, hD5, hF5, hb5⟩ := DiskAt.quiet hFk (Nat.le_trans hBk.size hb4.size) hO
      have hB5 := hB4.trans hb5
      have hdn := (fs n (k + 1) hlt).down
      clear hw hb4 hb5 hO hD4 hB4
      go_wp2_with fail
      refine (down_w g _ F5 w5 hD5).mono ?_
      rintro e w6 ⟨rfl, rfl⟩
      rw [hdn]
      clear hdn
      go_wp2
      go_roundw
      case rel => exact ⟨k + 1, F5, by go_num, by omega, hD5, hF5, hB5⟩
      case measure => simp [intOf]; omega
    · have hke : k = n := by omega
      subst hke
      have hgk : ¬ (k : Int) < (k : Int) := by omega
      clear hlt hD3 hF3 hB3 w3 F3
      go_wp2
      obtain ⟨wo, hwo⟩ : ∃ wo : World, wo = wr := ⟨_, rfl⟩
      rw [← hwo]
      have HWO := Lib.hid hwo
      clear hwo
      go_loopw [7] (fun i wr => ∃ (j : Nat) (Fk : Nat → Prop), i = .int .i64 j ∧ j ≤ m + 1 ∧ DiskAt wr g (gS k j) Fk ∧ (∀ j, Fk j → w.heap.size ≤ j) ∧ Below w.heap.size w wr)
        (fun i _ => m + 1 - (intOf i).toNat)
      case atStart => rw [HWO.out]; exact ⟨0, Fk, rfl, by omega, hDk, hFk, hBk⟩
      case round =>
        obtain ⟨j, Fj, rfl, hj, hDj, hFj, hBj⟩ := hrel
        obtain ⟨g1, g2, g3⟩ := gS_fuse k j
        by_cases hlt : j ≤ m
        · have hgj : (j : Int) ≤ (m : Int) := by omega
          have hw' : ∀ (w4 : World) (A : Option Addr), DiskAt w4 g (gS k j) Fj → Bytes w4 A (secL 1) → Calls Try.prog 11 #[.pointer (some ⟨g, 0, none⟩), .int .i64 299, .slice A 256 256] w4 fun e w' => e = .returned (.int .i64 7) ∧ OnD g w4 Fj (gS k (j + 1)) w' := fun w4 A hD4 hby => by
            have hw := write_w g (gS k j) Fj 299 A (secL 1) 256 w4 hD4 (by rw [g1]; decide) hby (secL_oct 1) (by rw [g2]; omega) (by rw [secL_len]; decide)
            rw [secL_len, write_no k j] at hw
            exact hw
          have HW := Lib.hid hw'
          clear hw' g1 g2 g3
          go_wp2_with fail
          refine (sector_any 1 wr).mono ?_
          rintro e w4 ⟨rfl, hs4, hb4⟩
          have hD4 := hDj.below hb4
          have hB4 := hBj.trans (hb4.mono hBj.size)
          have hby := Own.sec hs4
          clear hs4
          go_wp2_with fail
          refine (HW.out w4 _ hD4 hby).mono ?_
          rintro e w5 ⟨rfl, hO⟩
          obtain ⟨F5, hD5, hF5, hb5⟩ := DiskAt.quiet hFj (Nat.le_trans hBj.size hb4.size) hO
          have hB5 := hB4.trans hb5
          have hdn : (gS k (j + 1)).down = true := rfl
          clear hb4 hb5 hO hD4 hB4 hby
          go_wp2_with fail
          refine (down_w g _ F5 w5 hD5).mono ?_
          rintro e w6 ⟨rfl, rfl⟩
          rw [hdn]
          clear hdn
          go_wp2
          go_roundw
          case rel => exact ⟨j + 1, F5, by go_num, by omega, hD5, hF5, hB5⟩
          case measure => simp [intOf]; omega
        · have hje : j = m + 1 := by omega
          subst hje
          have hgj : ¬ ((m + 1 : Nat) : Int) ≤ (m : Int) := by omega
          have hS : gS k (m + 1) = fD k := rfl
          rw [hS] at hDj g1 g2 g3
          have HG2 := Lib.hid g2
          have HG1 := Lib.hid g1
          clear hS hlt
          have hRd : readE (fD k) 0 = (7, fD k) := by unfold readE; rw [if_pos (by rfl)]
          have hSy : syncE (fD k) = (7, fD k) := by unfold syncE; rw [if_pos (by rfl)]
          have hCr : readE (cutS (fD k) []) 299 = (0, { cutS (fD k) [] with a0 := wrap64 ((cutS (fD k) []).a0 + 1) }) := by
            unfold readE
            have hdn0 : (cutS (fD k) []).down = false := rfl
            rw [if_neg (by rw [hdn0]; decide), if_neg (by show ¬ (_ ∨ (fD k).size ≤ 299); rw [g3]; decide)]
          have hCl : readL (cutS (fD k) []) 299 = zeroSec := by
            unfold readL
            rw [hCr]
            show rd (cutS (fD k) []) 299 = zeroSec
            unfold rd
            have hh := fs k k (Nat.le_refl _)
            have : (cutS (fD k) []).now 299 = none := by
              show applyW (fD k).lasts (keptW (fD k).pend [] (fD k).pend.length) 299 = none
              rw [applyW_none]
              · show (fS k k).lasts 299 = none
                rw [hh.lasts]
              · intro q hq
                have h9 := hh.keys q (keptW_sub _ _ _ q hq)
                omega
            rw [this]
            rfl
          have hr := read_w g (fD k) Fj 0 wr hDj
          rw [hRd] at hr
          have HRL : readL (fD k) 0 = [] := by unfold readL; rw [hRd]; rfl
          rw [HRL] at hr
          clear HRL hRd
          go_wp2_with fail
          refine hr.mono ?_
          rintro e w4 ⟨v4, rfl, hown, hO⟩
          obtain ⟨F4, hD4, hF4, hb4⟩ := DiskAt.quiet hFj hBj.size hO
          have hB4 := hBj.trans hb4
          obtain ⟨A4, c4, rfl, _⟩ := hown.shape
          clear hown hO hb4 hr
          have hc := cut_w g (fD k) F4 none [] 0 w4 hD4 (by rw [g3]; decide) (by rw [g3]; decide) (by rw [g2]; omega) Cells.nil (by decide)
          clear g1 g2 g3
          go_wp2_with fail
          refine hc.mono ?_
          rintro e w5 ⟨x, F5, rfl, hX, hFX, hb5⟩
          have hD5 := hD4.below hb5
          have hFX' : ∀ j, F5 j → w.heap.size ≤ j := fun j hj => Nat.le_trans hB4.size (hFX j hj)
          have hdis : ∀ j, F4 j → ¬ F5 j := fun j h4 h5 => by have := hFX j h5; have := hD4.lt j h4; omega
          have hB5 := hB4.trans (hb5.mono hB4.size)
          have hr := read_w x (cutS (fD k) []) F5 299 w5 hX
          rw [hCr, hCl] at hr
          clear hc hb5 hD4
          go_wp2_with fail
          refine hr.mono ?_
          rintro e w6 ⟨v6, rfl, hown, hO⟩
          obtain ⟨F6, hX6, hC6, _⟩ := hO
          have hD6 : DiskAt w6 g (fD k) F4 := hD5.chg hC6 (fun j => hdis j) (fun j cur mk hj => hX.notByte j cur mk hj)
          have hB6 := hB5.trans (hC6.below hB5.size hFX')
          obtain ⟨A6, c6, e6, hc6, _, hcell⟩ := hown.shape
          have hby6 : Bytes w6 A6 zeroSec := by rw [e6] at hown; exact hown.bytes
          have hl6 := zeroSec_len
          obtain ⟨bb, off, rfl, hbb, hcl⟩ := hcell.form (by unfold zeroSec; intro x; cases x)
          have hz0 := hcl 0 (.int .u8 0) (by rfl)
          rw [hl6] at e6
          subst e6
          clear hcl hcell hl6 hr hX hC6 hD5 hX6
          have hs := sync_w g (fD k) F4 w6 hD6 (by rw [HG1.out]; decide) (by rw [HG2.out]; omega)
          rw [hSy] at hs
          go_wp2_with fail
          refine hs.mono ?_
          rintro e w7 ⟨rfl, hO⟩
          obtain ⟨F7, hD7, hF7, hb7⟩ := DiskAt.quiet hF4 hB6.size hO
          have hB7 := hB6.trans hb7
          have hBKs : BK w6 w7 := by
            obtain ⟨_, _, hC7, _⟩ := hO
            exact hD6.bk hC7
          have hby7 := hby6.keep hBKs
          clear hb7 hO hs hD6 hBKs hby6
          go_wp2_with fail
          refine (pending_w g _ F7 w7 hD7).mono ?_
          rintro e w8 ⟨rfl, rfl⟩
          rw [HG2.out]
          have hz7 : w7.cell? ⟨bb, off, none⟩ = some (.int .u8 0) := by
            obtain ⟨b', o', e', _, h'⟩ := hby7.1 0 (.int .u8 0) (by rfl)
            injection e' with e'
            injection e' with e1 e2
            subst e1 e2
            exact h'
          clear hby7
          go_wp2
          go_ret
          exact ⟨rfl, hB7⟩
end Go.Proofs.Ytaimohidpppfeaa
