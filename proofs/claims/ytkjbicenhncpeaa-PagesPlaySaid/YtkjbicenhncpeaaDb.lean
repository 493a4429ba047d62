/-
  The contracts of the disk's Read and Write.
-/
import Derived.Test.YtkjbicenhncpeaaDa
set_option linter.unusedVariables false
namespace Go.Proofs.Ytkjbicenhncpeaa
open Go.RowKit

/-- A sector of zeros. -/
def zeroSec : List Int := List.replicate 256 0
theorem zeroSec_len : zeroSec.length = 256 := by unfold zeroSec; exact List.length_replicate
theorem zeroSec_oct : Oct zeroSec := fun x hx => by
  have := List.eq_of_mem_replicate hx
  omega
/-- What is read of a sector. -/
def rd (s : DS) (n : Int) : List Int := (s.now n).getD zeroSec
theorem own_sec {w : World} {base : Nat} {v : Value} {l : List Int} (h : Own w base v l) (hl : l.length = 256) (ho : Oct l) : Sec w v l := by
  rcases h.2 with ⟨_, h0⟩ | ⟨g, cap, cur, e, hb, hh, hn, hm, hc, ht⟩
  · omega
  · refine ⟨g, 0, cap, cur, (0, 0), by rw [e, hl], hh, by omega, hm, ?_, hl, ho⟩
    obtain ⟨A, c, e', _, _, hcell⟩ := h.shape
    rw [e] at e'
    injection e' with e1
    rw [e1]
    exact hcell

/-- What Read answers. -/
def ReadD (g : Nat) (s : DS) (p : DP) (n : Int) (w : World) (e : Ending) (w' : World) : Prop :=
  if s.down = true then e = .returned (.tuple #[.slice none 0 0, .int .i64 7]) ∧ w = w'
  else if n < 0 ∨ s.size ≤ n then e = .returned (.tuple #[.slice none 0 0, .int .i64 1]) ∧ w = w'
  else ∃ v, e = .returned (.tuple #[v, .int .i64 0]) ∧ Own w' w.heap.size v (rd s n) ∧ DiskOf w' g { s with a0 := wrap64 (s.a0 + 1) } p ∧ Chg w w' (fun k => k = g)

theorem zeroE (w : World) : (zeroValue 37).run Try.prog w = .ok (.slice none 0 0) w := by kernel_rfl
theorem make256 : ∀ w, (Instr.makeSlice 37 (.int .i64 256) (.int .i64 256)).run Try.prog w = .ok (.slice (some ⟨w.heap.size, 0, none⟩) 256 256) (w.alloc (.cells (U8 zeroSec).toArray 5)) := fun _ => by kernel_rfl

set_option maxHeartbeats 2000000 in
theorem read_any (g : Nat) (s : DS) (p : DP) (n : Int) (w : World) (h : DiskOf w g s p) :
    Calls Try.prog 33 #[.pointer (some ⟨g, 0, none⟩), .int .i64 n] w (ReadD g s p n w) := by
  have c0 : w.cell? ⟨g, 0, none⟩ = some (.int .i64 s.size) := h.blk.cell 0
  have c6 : w.cell? ⟨g, 6, none⟩ = some (.int .i64 s.a0) := h.blk.cell 6
  have z6 := h.blk.free 6
  by_cases hd : s.down = true
  · go_enter Try.func33, Try.ntmps33
    go_wp2_with fail
    refine (down_any g s p w h).mono ?_
    rintro e w1 ⟨rfl, rfl⟩
    go_wp2
    go_ret2
    unfold ReadD
    rw [if_pos hd]
    exact ⟨rfl, rfl⟩
  have hd' : s.down = false := by simpa using hd
  by_cases hn : n < 0
  · go_enter Try.func33, Try.ntmps33
    go_wp2_with fail
    refine (down_any g s p w h).mono ?_
    rintro e w1 ⟨rfl, rfl⟩
    go_wp2
    go_ret2
    unfold ReadD
    rw [if_neg hd, if_pos (.inl hn)]
    exact ⟨rfl, rfl⟩
  by_cases hn2 : s.size ≤ n
  · go_enter Try.func33, Try.ntmps33
    go_wp2_with fail
    refine (down_any g s p w h).mono ?_
    rintro e w1 ⟨rfl, rfl⟩
    go_wp2
    go_ret2
    unfold ReadD
    rw [if_neg hd, if_pos (.inr hn2)]
    exact ⟨rfl, rfl⟩
  have h1 : DiskOf (w.setCell ⟨g, 6, none⟩ (.int .i64 (wrap64 (s.a0 + 1)))) g { s with a0 := wrap64 (s.a0 + 1) } p := h.set_ 6 _ rfl rfl rfl rfl
  have hC := Chg.setCell w ⟨g, 6, none⟩ (.int .i64 (wrap64 (s.a0 + 1)))
  have c1 : (w.setCell ⟨g, 6, none⟩ (.int .i64 (wrap64 (s.a0 + 1)))).cell? ⟨g, 1, none⟩ = some (.map (some p.gn)) := h1.blk.cell 1
  have hlk := h1.now.lookup (P := Try.prog) (T := 56) (K := 3) (E := 37) Try.underlying56 Try.underlying3 (zeroE _) n
  have hmk := make256
  rcases h1.hnow n with ⟨e1, e2⟩ | ⟨v, l, e1, e2, hsec⟩
  · rw [e1] at hlk
    simp only [Option.getD_none, Option.isSome_none] at hlk
    have HR : Hid (rd s n = zeroSec) := by show rd s n = zeroSec; unfold rd; rw [show s.now n = none from e2]; rfl
    clear e1 e2
    go_enter Try.func33, Try.ntmps33
    go_wp2_with fail
    refine (down_any g s p w h).mono ?_
    rintro e w1 ⟨rfl, rfl⟩
    go_wp2_with fail
    refine (add_any g 6 s.a0 w c6 z6).mono ?_
    rintro e w1 ⟨rfl, rfl⟩
    generalize hW : w.setCell ⟨g, 6, none⟩ (.int .i64 (wrap64 (s.a0 + 1))) = W at *
    go_wp2
    go_ret2
    unfold ReadD
    rw [if_neg hd, if_neg (by omega)]
    refine ⟨_, rfl, ?_, h1.below ((Below.refl _ _).alloc (Nat.le_refl _) _), hC.trans (Chg.alloc W _ (fun _ => False)) (fun i hi => hi.elim)⟩
    rw [HR.out]
    have h9 := own_row W w.heap.size zeroSec hC.size (by rw [zeroSec_len]; decide)
    rw [zeroSec_len] at h9
    exact h9
  · rw [e1] at hlk
    simp only [Option.getD_some, Option.isSome_some] at hlk
    have HR : Hid (rd s n = l) := by show rd s n = l; unfold rd; rw [show s.now n = some l from e2]; rfl
    clear e1 e2
    obtain ⟨b, off, c, cur, mk, rfl, hb, hc1, hc2, hcell, hl, ho⟩ := hsec
    have HL := Lib.hid hl
    clear hl
    go_enter Try.func33, Try.ntmps33
    go_wp2_with fail
    refine (down_any g s p w h).mono ?_
    rintro e w1 ⟨rfl, rfl⟩
    go_wp2_with fail
    refine (add_any g 6 s.a0 w c6 z6).mono ?_
    rintro e w1 ⟨rfl, rfl⟩
    generalize hW : w.setCell ⟨g, 6, none⟩ (.int .i64 (wrap64 (s.a0 + 1))) = W at *
    go_wp2_with fail
    rw [← HL.out]
    refine (clone_any _ l c W hcell (by rw [HL.out]; decide)).mono ?_
    rintro e w2 ⟨v2, rfl, hown2, hb2⟩
    rw [HL.out]
    go_wp2
    go_ret2
    unfold ReadD
    rw [if_neg hd, if_neg (by omega)]
    exact ⟨v2, rfl, by rw [HR.out]; exact hown2.mono hC.size, h1.below hb2, hC.trans (Chg.of_below hb2 (fun _ => False)) (fun i hi => hi.elim)⟩
end Go.Proofs.Ytkjbicenhncpeaa
