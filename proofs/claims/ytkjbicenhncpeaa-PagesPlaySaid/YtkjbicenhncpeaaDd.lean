/-
  The contract of the disk's Sync.
-/
import Derived.Test.YtkjbicenhncpeaaDc
import Derived.Deep.RegionHeld3
import Derived.Deep.DeepCutAuto
set_option linter.unusedVariables false
namespace Go.Proofs.Ytkjbicenhncpeaa
open Go.RowKit

/-- Writes, one behind the other. -/
def applyW (c : Int → Option (List Int)) (qs : List (Int × List Int)) : Int → Option (List Int) := qs.foldl (fun c q => updC c q.1 q.2) c
theorem applyW_snoc (c : Int → Option (List Int)) (qs : List (Int × List Int)) (q : Int × List Int) : applyW c (qs ++ [q]) = updC (applyW c qs) q.1 q.2 := by simp [applyW, List.foldl_append]
theorem take_snoc' {α : Type} (l : List α) (k : Nat) (h : k < l.length) : l.take (k + 1) = l.take k ++ [l[k]] := by
  rw [List.take_succ_eq_append_getElem h]

/-- The state behind a sync that is done. -/
def syncedS (s : DS) : DS := { s with a2 := wrap64 (s.a2 + 1), lasts := applyW s.lasts s.pend, pend := [] }

/-- The last map gets a write more. -/
theorem DiskOf.lasted {w w' : World} {g : Nat} {s : DS} {p : DP} {n : Int} {v : Value} {l : List Int} (h : DiskOf w g s p) (hsec : Sec w v l) (hM : MapIs w' p.gl (updM p.fl n v)) (hg : w.grownBy w' (some p.gl)) :
    DiskOf w' g { s with lasts := updC s.lasts n l } { p with fl := updM p.fl n v } ∧ Chg w w' (Foot g p) := by
  have hC : Chg w w' (Foot g p) := (Chg.grown hg).mono fun i _ hi => .inr (.inr (.inl (by injection hi with hi; exact hi.symm)))
  have hBK := h.bytes hC
  have n2 : g ≠ p.gl := fun x => by
    have := h.blk
    unfold Blk at this
    rw [x] at this
    exact h.lasts.notCells this
  refine ⟨⟨h.blk.grown hg (fun e => n2 (by injection e)), h.now.block (hg.block _ h.now.lt (fun e => h.two (by injection e))), hM, h.two, ?_, h.hnow.keep hBK hC.size, (h.hlasts.put hsec).keep hBK hC.size, h.pend.keep hBK hC.size⟩, hC⟩
  refine h.row.kept hg ?_
  rcases hv : p.vp.ownBlock with _ | k
  · exact .inl rfl
  · refine .inr fun e => ?_
    injection e with e
    subst e
    obtain ⟨cur, hh⟩ := row_block h.row hv
    exact h.lasts.notCells hh

/-- The list of writes is dropped. -/
theorem DiskOf.dropped {w : World} {g : Nat} {s : DS} {p : DP} (h : DiskOf w g s p) : DiskOf (w.setCell ⟨g, 3, none⟩ (.slice none 0 0)) g { s with pend := [] } { p with vp := .slice none 0 0, ps := [] } := by
  have hg : ∀ k, k ≠ g → (w.setCell ⟨g, 3, none⟩ (.slice none 0 0)).heap[k]? = w.heap[k]? := fun k hk => Below.heap_setCell w ⟨g, 3, none⟩ _ k hk
  have hs : w.heap.size ≤ (w.setCell ⟨g, 3, none⟩ (.slice none 0 0)).heap.size := by simp [World.setCell]
  have hb : BK w (w.setCell ⟨g, 3, none⟩ (.slice none 0 0)) := fun k cur mk hk => hg k (fun x => by subst x; exact h.notByte k (.inl rfl) cur mk hk)
  have n1 : p.gn ≠ g := fun x => by
    have := h.blk
    unfold Blk at this
    rw [← x] at this
    exact h.now.notCells this
  have n2 : p.gl ≠ g := fun x => by
    have := h.blk
    unfold Blk at this
    rw [← x] at this
    exact h.lasts.notCells this
  exact ⟨h.blk.set_ 3 _, h.now.block (hg _ n1), h.lasts.block (hg _ n2), h.two, World.ownsRow_nil _ _ _ _, h.hnow.keep hb hs, h.hlasts.keep hb hs, trivial⟩

/-- What Sync answers. -/
def SyncD (g : Nat) (s : DS) (p : DP) (w : World) (e : Ending) (w' : World) : Prop :=
  if s.down = true then e = .returned (.int .i64 7) ∧ w = w'
  else if s.fuse = 0 then e = .returned (.int .i64 7) ∧ DiskOf w' g (burnS s) p ∧ Chg w w' (fun k => k = g)
  else ∃ p', e = .returned (.int .i64 0) ∧ DiskOf w' g (syncedS (burnS s)) p' ∧ Chg w w' (Foot g p) ∧ p'.gn = p.gn ∧ p'.gl = p.gl ∧ p'.vp.ownBlock = none

set_option maxHeartbeats 4000000 in
theorem sync_any (g : Nat) (s : DS) (p : DP) (w : World) (h : DiskOf w g s p) (hf : s.fuse ≤ 9223372036854775807) (hp : s.pend.length ≤ 1000000000) :
    Calls Try.prog 40 #[.pointer (some ⟨g, 0, none⟩)] w (SyncD g s p w) := by
  by_cases hd : s.down = true
  · go_enter Try.func40, Try.ntmps40
    go_wp2_with fail
    refine (down_any g s p w h).mono ?_
    rintro e w1 ⟨rfl, rfl⟩
    rw [hd]
    go_wp2
    go_ret
    unfold SyncD
    rw [if_pos hd]
    exact ⟨rfl, rfl⟩
  have hd' : s.down = false := by simpa using hd
  by_cases hz : s.fuse = 0
  · have hbb : burnB s = false := by simp [burnB, hz]
    go_enter Try.func40, Try.ntmps40
    go_wp2_with fail
    refine (down_any g s p w h).mono ?_
    rintro e w1 ⟨rfl, rfl⟩
    rw [hd']
    go_wp2_with fail
    refine (burn_any g s p w h hf).mono ?_
    rintro e w1 ⟨rfl, h1, hC1⟩
    rw [hbb]
    go_wp2
    go_ret
    unfold SyncD
    rw [if_neg hd, if_pos hz]
    exact ⟨rfl, h1, hC1⟩
  · have hbb : burnB s = true := by simp [burnB, hz]
    have be := burn_eq hz
    obtain ⟨t, ht⟩ : ∃ t, t = burnS s := ⟨_, rfl⟩
    have HT := Lib.hid ht
    rw [← ht] at be
    go_enter Try.func40, Try.ntmps40
    go_wp2_with fail
    refine (down_any g s p w h).mono ?_
    rintro e w1 ⟨rfl, rfl⟩
    rw [hd']
    go_wp2_with fail
    refine (burn_any g s p w h hf).mono ?_
    rintro e w1 ⟨rfl, h1, hC1⟩
    rw [hbb]
    rw [← ht] at h1
    clear ht
    have c8 : w1.cell? ⟨g, 8, none⟩ = some (.int .i64 t.a2) := h1.blk.cell 8
    have z8 := h1.blk.free 8
    go_wp2_with fail
    refine (add_any g 8 t.a2 w1 c8 z8).mono ?_
    rintro e w2 ⟨rfl, rfl⟩
    have h2 : DiskOf (w1.setCell ⟨g, 8, none⟩ (.int .i64 (wrap64 (t.a2 + 1)))) g { t with a2 := wrap64 (t.a2 + 1) } p := h1.set_ 8 _ rfl rfl rfl rfl
    have hC2 : Chg w (w1.setCell ⟨g, 8, none⟩ (.int .i64 (wrap64 (t.a2 + 1)))) (fun k => k = g) := hC1.trans (Chg.setCell w1 ⟨g, 8, none⟩ _) fun i hi => .inl hi
    generalize hW : w1.setCell ⟨g, 8, none⟩ (.int .i64 (wrap64 (t.a2 + 1))) = W at *
    clear hW c8 z8
    obtain ⟨A, c, hvp, _, _, hcr⟩ := ownsRow_shape h2.row
    have HV := Lib.hid hvp
    have c3 : W.cell? ⟨g, 3, none⟩ = some (.slice A p.ps.length c) := by
      have : W.cell? ⟨g, 3, none⟩ = some p.vp := h2.blk.cell 3
      rw [this, hvp]
    clear hvp
    have hpl : p.ps.length ≤ 1000000000 := by have := h.pend.len; omega
    have hpt := h2.pend.len
    have HPT := Lib.hid hpt
    clear hpt
    go_wp2
    go_loopw [22] (fun i wr => ∃ (k : Nat) (fl : Int → Option Value), i = .int .i64 k ∧ k ≤ p.ps.length ∧ DiskOf wr g { t with a2 := wrap64 (t.a2 + 1), lasts := applyW t.lasts (t.pend.take k) } { p with fl := fl } ∧ Chg W wr (Foot g p))
      (fun i _ => p.ps.length - (intOf i).toNat)
    case atStart => exact ⟨0, p.fl, rfl, Nat.zero_le _, h2, Chg.refl _ _⟩
    case round =>
      obtain ⟨k, fl, rfl, hk, hD, hC⟩ := hrel
      by_cases hlt : k < p.ps.length
      · have hlt' : k < t.pend.length := by have := HPT.out; omega
        obtain ⟨A', c', e', _, _, hcr2⟩ := ownsRow_shape hD.row
        have hAA : A' = A := by
          have h9 : p.vp = .slice A' p.ps.length c' := e'
          rw [HV.out] at h9
          injection h9 with h9
          exact h9.symm
        subst hAA
        clear e'
        have hne : flat p.ps ≠ [] := fun x => by
          have := flat_len p.ps
          rw [x] at this
          simp at this
          omega
        obtain ⟨b, off, rfl, hbl, hcc⟩ := hcr2.form hne
        obtain ⟨hat1, hat2⟩ := hD.pend.at_ k hlt hlt'
        have q0 := hcc _ _ (flat_fst hlt)
        have q1 := hcc _ _ (flat_snd hlt)
        simp only at hat1 hat2
        obtain ⟨n, hn⟩ : ∃ n, (t.pend[k]).1 = n := ⟨_, rfl⟩
        obtain ⟨l, hl⟩ : ∃ l, (t.pend[k]).2 = l := ⟨_, rfl⟩
        obtain ⟨v, hv⟩ : ∃ v, (p.ps[k]).2 = v := ⟨_, rfl⟩
        rw [hn] at hat1
        rw [hl, hv] at hat2
        rw [hat1] at q0
        rw [hv, ← Nat.add_assoc] at q1
        have HN := Lib.hid hn
        have HLl := Lib.hid hl
        clear hn hl hv hat1 hcc hne
        obtain ⟨bs, os', cs, cur, mk, rfl, hrest⟩ := hat2
        have hsec : Sec wr (.slice (some ⟨bs, os', none⟩) 256 cs) l := ⟨bs, os', cs, cur, mk, rfl, hrest⟩
        have hD1 := hD.below ((Below.refl _ _).alloc (Nat.le_refl _) (.cells #[.int .i64 n, .slice (some ⟨bs, os', none⟩) 256 cs] 86))
        have hsec1 : Sec (wr.alloc (.cells #[.int .i64 n, .slice (some ⟨bs, os', none⟩) 256 cs] 86)) (.slice (some ⟨bs, os', none⟩) 256 cs) l := hsec.keep (BK.of_below ((Below.refl _ _).alloc (Nat.le_refl _) _)) (by simp)
        have p2 : (wr.alloc (.cells #[.int .i64 n, .slice (some ⟨bs, os', none⟩) 256 cs] 86)).cell? ⟨g, 2, none⟩ = some (.map (some p.gl)) := hD1.blk.cell 2
        have hML : MapIs (wr.alloc (.cells #[.int .i64 n, .slice (some ⟨bs, os', none⟩) 256 cs] 86)).drew p.gl fl := hD1.lasts
        obtain ⟨w4, hrun, hM4, hg4, hs4⟩ := hML.update (P := Try.prog) (T := 56) (K := 3) (E := 37) Try.underlying56 Try.underlying3 n (.slice (some ⟨bs, os', none⟩) 256 cs)
        clear hs4
        have g1 : (k : Int) < (p.ps.length : Int) := by omega
        go_wp2
        go_region
        go_wp2
        have hsec2 : Sec (wr.alloc (.cells #[.int .i64 n, .slice (some ⟨bs, os', none⟩) 256 cs] 86)).drew (.slice (some ⟨bs, os', none⟩) 256 cs) l := hsec1.keep (fun _ _ _ _ => rfl) (Nat.le_refl _)
        obtain ⟨k1, k2⟩ := (hD1.below ((Below.refl _ _).drew)).lasted hsec2 hM4 hg4
        have hstep : applyW t.lasts (t.pend.take (k + 1)) = updC (applyW t.lasts (t.pend.take k)) n l := by
          rw [take_snoc' t.pend k hlt', applyW_snoc, HN.out, HLl.out]
        go_roundw
        case rel => exact ⟨k + 1, _, by go_num, by omega, by rw [hstep]; exact k1, (hC.trans ((Chg.alloc wr _ (Foot g p)).trans (Chg.drew _ (Foot g p)) (fun i hi => .inl hi)) (fun i hi => .inl hi)).trans k2 (fun i hi => .inl hi)⟩
        case measure => simp [intOf]; omega
      · have c3' : wr.cell? ⟨g, 3, none⟩ = some p.vp := hD.blk.cell 3
        have z3' := hD.blk.free 3
        have hk' : t.pend.take k = t.pend := List.take_of_length_le (by have := HPT.out; omega)
        rw [hk'] at hD
        clear hk'
        have hX := hD.dropped
        have HX := Lib.hid hX
        clear hX
        go_wp2
        go_ret
        unfold SyncD
        rw [if_neg hd, if_neg hz]
        have hC3 : Chg w wr (Foot g p) := (hC2.mono fun i _ hi => .inl hi).trans hC fun i hi => .inl hi
        exact ⟨{ p with fl := fl, vp := .slice none 0 0, ps := [] }, rfl, by rw [← HT.out]; exact HX.out, hC3.trans (Chg.setCell wr ⟨g, 3, none⟩ _) (fun i hi => .inl (.inl hi)), rfl, rfl, rfl⟩
end Go.Proofs.Ytkjbicenhncpeaa
