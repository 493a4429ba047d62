/-
  sector, awake.
-/
import Derived.Test.YtaimohidpppfeaaDf
set_option linter.unusedVariables false
namespace Go.Proofs.Ytaimohidpppfeaa
open Go.RowKit

/-- A sector whose bytes are all m. -/
def secL (m : Int) : List Int := List.replicate 256 (m % 256)
theorem secL_len (m : Int) : (secL m).length = 256 := by unfold secL; exact List.length_replicate
theorem secL_oct (m : Int) : Oct (secL m) := fun x hx => by
  have := List.eq_of_mem_replicate hx
  omega
/-- The first k bytes are set. -/
def secK (m : Int) (k : Nat) : List Int := List.replicate k (m % 256) ++ List.replicate (256 - k) 0
theorem secK_len (m : Int) (k : Nat) (h : k ≤ 256) : (secK m k).length = 256 := by unfold secK; rw [List.length_append, List.length_replicate, List.length_replicate]; omega
theorem secK_all (m : Int) : secK m 256 = secL m := by
  unfold secK secL
  rw [Nat.sub_self, List.replicate_zero, List.append_nil]
theorem secK_at (m : Int) (k : Nat) (h : k < 256) : ∃ v : Int, (U8 (secK m k)).toArray[k]? = some (.int .u8 v) := by
  have : k < (secK m k).length := by rw [secK_len m k (by omega)]; exact h
  exact ⟨(secK m k)[k], by simp [U8, this]⟩
theorem secK_succ (m : Int) (k : Nat) (h : k < 256) : (U8 (secK m k)).toArray.setIfInBounds k (.int .u8 (m % 256)) = (U8 (secK m (k + 1))).toArray := by
  apply Array.toList_inj.1
  rw [Array.toList_setIfInBounds]
  show (U8 (secK m k)).set k _ = U8 (secK m (k + 1))
  unfold U8
  rw [← List.map_set]
  congr 1
  unfold secK
  rw [List.set_append_right _ _ (by simp)]
  have e : 256 - k = (256 - (k + 1)) + 1 := by omega
  rw [e, List.replicate_succ]
  simp [List.replicate_succ']

theorem own_blk {w : World} {g base : Nat} {l : List Int} (h : Blk w g 5 (U8 l).toArray) (hb : base ≤ g) (hl : l.length ≤ maxLen) : Own w base (.slice (some ⟨g, 0, none⟩) l.length l.length) l := by
  refine ⟨by simp [U8], .inr ⟨g, l.length, (U8 l).toArray, rfl, hb, h, Nat.le_refl _, hl, ?_, ?_⟩⟩
  · simp [U8]
  · simp only [U8]
    exact List.take_of_length_le (by simp)

set_option maxHeartbeats 1000000 in
theorem sector_any (m : Int) (w : World) :
    Calls Try.prog 12 #[.int .i64 m] w fun e w' => e = .returned (.slice (some ⟨w.heap.size, 0, none⟩) 256 256) ∧ Blk w' w.heap.size 5 (U8 (secL m)).toArray ∧ Below w.heap.size w w' := by
  have h256 := make256
  go_enter Try.func12, Try.ntmps12
  go_wp2
  have hb0 : Blk (w.alloc (.cells (U8 zeroSec).toArray 5)) w.heap.size 5 (U8 (secK m 0)).toArray := Blk.new w _ _
  have hB0 : Below w.heap.size w (w.alloc (.cells (U8 zeroSec).toArray 5)) := (Below.refl _ _).alloc (Nat.le_refl _) _
  generalize w.alloc (.cells (U8 zeroSec).toArray 5) = W at *
  clear h256
  obtain ⟨N, hN⟩ : ∃ N : Nat, N = 256 := ⟨_, rfl⟩
  rw [← hN]
  have HN := Lib.hid hN
  clear hN
  go_loopw [4] (fun i wr => ∃ k : Nat, i = .int .i64 k ∧ k ≤ N ∧ Blk wr w.heap.size 5 (U8 (secK m k)).toArray ∧ Below w.heap.size w wr)
    (fun i _ => N - (intOf i).toNat)
  case atStart => exact ⟨0, rfl, Nat.zero_le _, hb0, hB0⟩
  case round =>
    obtain ⟨k, rfl, hk, hb, hB⟩ := hrel
    by_cases hlt : k < N
    · have hl2 : k < 256 := by have := HN.out; omega
      have hNs : N ≤ 256 := by have := HN.out; omega
      obtain ⟨v, hv⟩ := secK_at m k hl2
      have ck : wr.cell? ⟨w.heap.size, k, none⟩ = some (.int .u8 v) := by rw [hb.cell k]; exact hv
      have zk := hb.free k
      have hb' := hb.set_ k (.int .u8 (m % 256))
      rw [secK_succ m k hl2] at hb'
      have HB := Lib.hid hb'
      clear hb' hv hb hb0
      have hwm : IntKind.u8.wrap m = m % 256 := IntKind.wrap_u8 m
      have hgk : (k : Int) < (N : Int) := by omega
      go_wp2
      go_roundw
      case rel => exact ⟨k + 1, by go_num, by omega, HB.out, hB.setCell (p := ⟨w.heap.size, k, none⟩) (Nat.le_refl _) _⟩
      case measure => simp [intOf]; omega
    · have hNk : k = N := by omega
      have HK := Lib.hid hNk
      clear hNk
      have hgk : ¬ (k : Int) < (N : Int) := by omega
      go_wp2
      go_ret
      have e1 := HN.out
      have e2 := HK.out
      subst e2
      subst e1
      refine ⟨rfl, ?_, hB⟩
      rw [← secK_all m]
      exact hb
theorem Own.sec {w : World} {m : Int} {g : Nat} (h : Blk w g 5 (U8 (secL m)).toArray) : Bytes w (some ⟨g, 0, none⟩) (secL m) :=
  Own.bytes (own_blk h (Nat.zero_le _) (by rw [secL_len]; decide))
theorem DiskAt.quiet {g : Nat} {w w' : World} {F : Nat → Prop} {s' : DS} {B : Nat} (hF : ∀ k, F k → B ≤ k) (hB : B ≤ w.heap.size) (h : OnD g w F s' w') : ∃ F', DiskAt w' g s' F' ∧ (∀ k, F' k → B ≤ k) ∧ Below B w w' := by
  obtain ⟨F', h1, h2, h3⟩ := h
  refine ⟨F', h1, fun k hk => ?_, h2.below hB hF⟩
  rcases h3 k hk with h | h
  · exact hF k h
  · omega

set_option maxHeartbeats 1000000 in
theorem awake_any (w : World) :
    Calls Try.prog 8 #[] w fun e w' => e = .returned (.bool true) ∧ Below w.heap.size w w' := by
  have h256 := make256
  go_enter Try.func8, Try.ntmps8
  go_wp2_with fail
  refine (new_w 2 w).mono ?_
  rintro e w1 ⟨g, F, rfl, h1, hF1, hb1⟩
  go_wp2_with fail
  refine (size_w g _ F w1 h1).mono ?_
  rintro e w2 ⟨rfl, rfl⟩
  have hsz : (newDS 2).size = 2 := by decide
  rw [hsz]
  go_wp2_with fail
  have hbb : Blk (w1.alloc (.cells (U8 zeroSec).toArray 5)) w1.heap.size 5 (U8 zeroSec).toArray := Blk.new w1 _ _
  have hby := Own.bytes (own_blk hbb (Nat.zero_le _) (by rw [zeroSec_len]; decide))
  have h2 := h1.below ((Below.refl w1.heap.size w1).alloc (Nat.le_refl _) (.cells (U8 zeroSec).toArray 5))
  have hw := write_w g (newDS 2) F 1 _ zeroSec 256 _ h2 (by decide) hby zeroSec_oct (by decide) (by rw [zeroSec_len]; decide)
  rw [zeroSec_len] at hw
  have hE : writeE (newDS 2) 1 zeroSec = (0, wroteS (newDS 2) 1 zeroSec) := by
    unfold writeE
    rw [if_neg (by decide), if_neg (by rw [zeroSec_len]; decide), if_neg (by decide)]
    rfl
  rw [hE] at hw
  refine hw.mono ?_
  rintro e w3 ⟨rfl, hO⟩
  obtain ⟨F3, h3, hF3, hb3⟩ := DiskAt.quiet (B := w.heap.size) hF1 (by simp; have := hb1.size; omega) hO
  go_wp2_with fail
  refine (pending_w g _ F3 w3 h3).mono ?_
  rintro e w4 ⟨rfl, rfl⟩
  have hp : (wroteS (newDS 2) 1 zeroSec).pend.length = 1 := by decide
  rw [hp]
  go_wp2
  go_ret
  exact ⟨rfl, (hb1.alloc hb1.size _).trans hb3⟩
end Go.Proofs.Ytaimohidpppfeaa
