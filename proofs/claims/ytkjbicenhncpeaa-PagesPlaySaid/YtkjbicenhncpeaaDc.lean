/-
  The contract of the disk's Write.
-/
import Derived.Test.YtkjbicenhncpeaaDb
set_option linter.unusedVariables false
namespace Go.Proofs.Ytkjbicenhncpeaa
open Go.RowKit

theorem info_write : (Try.prog.info? 86).map (fun i => (i.zero, i.size, i.bytes)) = some (some (.agg #[.int .i64 0, .slice none 0 0]), 2, 32) := by kernel_rfl

/-- The state behind a write that is done. -/
def wroteS (s : DS) (n : Int) (l : List Int) : DS := { s with a1 := wrap64 (s.a1 + 1), now := updC s.now n l, pend := s.pend ++ [(n, l)] }

theorem DiskOf.wrote {w3 w4 w5 : World} {g : Nat} {s : DS} {p : DP} {n : Int} {v3 v5 : Value} {l : List Int} (h : DiskOf w3 g s p) (hsec : Sec w3 v3 l)
    (hM : MapIs w4 p.gn (updM p.fn n v3)) (hg4 : w3.grownBy w4 (some p.gn)) (hrow : w5.ownsRow 0 86 2 v5 (p.ps.length + 1) (flat p.ps ++ [.int .i64 n, v3])) (hg5 : Grew w4 p.vp w5 v5) :
    DiskOf (w5.setCell ⟨g, 3, none⟩ v5) g { s with now := updC s.now n l, pend := s.pend ++ [(n, l)] } { p with vp := v5, ps := p.ps ++ [(n, v3)], fn := updM p.fn n v3 } ∧
      Chg w3 (w5.setCell ⟨g, 3, none⟩ v5) (Foot g p) ∧ (v5.ownBlock = p.vp.ownBlock ∨ ∀ k, v5.ownBlock = some k → w3.heap.size ≤ k) := by
  have hs4 := hg4.size
  have n1 : p.gn ≠ g := fun x => by
    have := h.blk
    unfold Blk at this
    rw [← x] at this
    exact h.now.notCells this
  have n2 : p.gl ≠ g := fun x => by
    have := h.blk
    unfold Blk at this
    rw [← x] at this
    exact h.lasts.notCells this
  have nb : ∀ k, p.vp.ownBlock = some k → k ≠ g ∧ k ≠ p.gn ∧ k ≠ p.gl := fun k hk => by
    obtain ⟨cur, hb⟩ := row_block h.row hk
    refine ⟨fun x => ?_, fun x => ?_, fun x => ?_⟩
    · subst x
      have := h.blk
      unfold Blk at this
      rw [hb] at this
      injection this with this
      injection this with _ this
      exact absurd this (by decide)
    · subst x; exact h.now.notCells hb
    · subst x; exact h.lasts.notCells hb
  have hC4 : Chg w3 w4 (Foot g p) := (Chg.grown hg4).mono fun i _ hi => .inr (.inl (by injection hi with hi; exact hi.symm))
  have hC5 : Chg w3 w5 (Foot g p) := hC4.trans (Chg.grown hg5.by_) fun i hi => .inl (.inr (.inr (.inr hi)))
  have hC6 : Chg w3 (w5.setCell ⟨g, 3, none⟩ v5) (Foot g p) := hC5.trans (Chg.setCell w5 ⟨g, 3, none⟩ v5) fun i hi => .inl (.inl hi)
  have hBK := h.bytes hC6
  have hkeep : ∀ k, k < w3.heap.size → k ≠ g → k ≠ p.gn → p.vp.ownBlock ≠ some k → (w5.setCell ⟨g, 3, none⟩ v5).heap[k]? = w3.heap[k]? := fun k hk h1 h2 h3 => by
    rw [Below.heap_setCell w5 ⟨g, 3, none⟩ v5 k h1, hg5.by_.block k (by omega) (fun e => h3 e.symm), hg4.block k hk (fun e => h2 (by injection e))]
  have hg5' : w5.heap[g]? = w3.heap[g]? := by
    have hlt := h.blk.lt
    rw [hg5.by_.block g (by omega) (fun e => (nb g e.symm).1 rfl), hg4.block g hlt (fun e => n1 (by injection e with e; exact e.symm))]
  have hat : v5.ownBlock = p.vp.ownBlock ∨ ∀ k, v5.ownBlock = some k → w3.heap.size ≤ k := by
    rcases hg5.at_ with e | e
    · exact .inl e
    · exact .inr fun k hk => Nat.le_trans hs4 (e k hk)
  refine ⟨⟨?_, ?_, ?_, h.two, ?_, ?_, ?_, ?_⟩, hC6, hat⟩
  · have hb : Blk w5 g 65 (dcells s p) := hg5'.trans h.blk
    exact hb.set_ 3 v5
  · refine hM.block ?_
    rw [Below.heap_setCell w5 ⟨g, 3, none⟩ v5 p.gn n1]
    exact hg5.by_.block p.gn hM.lt (fun e => (nb p.gn e.symm).2.1 rfl)
  · exact h.lasts.block (hkeep p.gl h.lasts.lt n2 h.two.symm (fun e => (nb p.gl e).2.2 rfl))
  · have hne : v5.ownBlock ≠ some g := fun e => by
      rcases hat with h1 | h1
      · rw [h1] at e; exact (nb g e).1 rfl
      · have := h1 g e; have := h.blk.lt; omega
    refine World.ownsRow.kept (row := some g) ?_ (show w5.grownBy (w5.setCell ⟨g, 3, none⟩ v5) (some g) from ⟨rfl, rfl, rfl, by simp [World.setCell], fun k _ hk => Below.heap_setCell w5 ⟨g, 3, none⟩ v5 k (fun e => hk (by rw [e]))⟩) (.inr hne)
    have e : flat (p.ps ++ [(n, v3)]) = flat p.ps ++ [.int .i64 n, v3] := by rw [flat_app]; rfl
    show w5.ownsRow 0 86 2 v5 (p.ps ++ [(n, v3)]).length (flat (p.ps ++ [(n, v3)]))
    rw [e, List.length_append]
    exact hrow
  · exact (h.hnow.put hsec).keep hBK hC6.size
  · exact h.hlasts.keep hBK hC6.size
  · exact (h.pend.snoc hsec).keep hBK hC6.size

/-- Bytes l at the address A, in a row of bytes. -/
def Bytes (w : World) (A : Option Addr) (l : List Int) : Prop := Cells w w.heap.size A (U8 l) ∧ ∀ ad, A = some ad → ∃ cur mk, w.heap[ad.block]? = some (Obj.cells cur 5 mk)
theorem Bytes.keep {w w' : World} {A : Option Addr} {l : List Int} (h : Bytes w A l) (hk : BK w w') : Bytes w' A l := by
  refine ⟨fun k u hu => ?_, fun ad e => ?_⟩
  · obtain ⟨b, off, rfl, hb, hc⟩ := h.1 k u hu
    obtain ⟨cur, mk, hh⟩ := h.2 _ rfl
    have hc' : w'.cell? ⟨b, off + k, none⟩ = some u := (World.cell?_of_block (a := ⟨b, off + k, none⟩) (hk b cur mk hh)).trans hc
    exact ⟨b, off, rfl, World.block_lt_of_cell? w' _ hc', hc'⟩
  · obtain ⟨cur, mk, hh⟩ := h.2 ad e
    exact ⟨cur, mk, (hk _ cur mk hh).trans hh⟩
theorem Own.bytes {w : World} {base : Nat} {A : Option Addr} {n c : Nat} {l : List Int} (h : Own w base (.slice A n c) l) : Bytes w A l := by
  refine ⟨h.cells, fun ad e => ?_⟩
  subst e
  obtain ⟨cur, hb⟩ := row_block (k := ad.block) h rfl
  exact ⟨cur, _, hb⟩
theorem BK.of_below {w w' : World} (h : Below w.heap.size w w') : BK w w' := fun k cur mk hk => h.block k (by
  rcases Nat.lt_or_ge k w.heap.size with h | h
  · exact h
  · rw [Array.getElem?_eq_none h] at hk; cases hk)

/-- What Write answers. -/
def WriteD (g : Nat) (s : DS) (p : DP) (n : Int) (l : List Int) (w : World) (e : Ending) (w' : World) : Prop :=
  if s.down = true then e = .returned (.int .i64 7) ∧ w = w'
  else if n < 0 ∨ s.size ≤ n ∨ l.length ≠ 256 then e = .returned (.int .i64 1) ∧ w = w'
  else if s.fuse = 0 then e = .returned (.int .i64 7) ∧ DiskOf w' g (burnS s) p ∧ Chg w w' (fun k => k = g)
  else ∃ p', e = .returned (.int .i64 0) ∧ DiskOf w' g (wroteS (burnS s) n l) p' ∧ Chg w w' (Foot g p) ∧ p'.gn = p.gn ∧ p'.gl = p.gl ∧ (p'.vp.ownBlock = p.vp.ownBlock ∨ ∀ k, p'.vp.ownBlock = some k → w.heap.size ≤ k)

theorem burn_eq {s : DS} (h : s.fuse ≠ 0) : (burnS s).size = s.size ∧ (burnS s).a1 = s.a1 ∧ (burnS s).now = s.now ∧ (burnS s).pend = s.pend ∧ (burnS s).down = s.down := by
  unfold burnS
  rw [if_neg h]
  split <;> exact ⟨rfl, rfl, rfl, rfl, rfl⟩

set_option maxHeartbeats 4000000 in
theorem write_any (g : Nat) (s : DS) (p : DP) (n : Int) (A : Option Addr) (l : List Int) (c : Nat) (w : World) (h : DiskOf w g s p) (hf : s.fuse ≤ 9223372036854775807) (hc : Bytes w A l) (ho : Oct l) (hp : s.pend.length ≤ 1000000000) (hl : l.length ≤ 9223372036854775807) :
    Calls Try.prog 46 #[.pointer (some ⟨g, 0, none⟩), .int .i64 n, .slice A l.length c] w (WriteD g s p n l w) := by
  have c0 : w.cell? ⟨g, 0, none⟩ = some (.int .i64 s.size) := h.blk.cell 0
  by_cases hd : s.down = true
  · go_enter Try.func46, Try.ntmps46
    go_wp2_with fail
    refine (down_any g s p w h).mono ?_
    rintro e w1 ⟨rfl, rfl⟩
    rw [hd]
    go_wp2
    go_ret
    unfold WriteD
    rw [if_pos hd]
    exact ⟨rfl, rfl⟩
  have hd' : s.down = false := by simpa using hd
  by_cases hbad : n < 0 ∨ s.size ≤ n ∨ l.length ≠ 256
  · have hfin : ∀ e w', e = .returned (.int .i64 1) ∧ w = w' → WriteD g s p n l w e w' := fun e w' x => by
      unfold WriteD
      rw [if_neg hd, if_pos hbad]
      exact x
    have HF := Lib.hid hfin
    clear hfin
    by_cases hn : n < 0
    · go_enter Try.func46, Try.ntmps46
      go_wp2_with fail
      refine (down_any g s p w h).mono ?_
      rintro e w1 ⟨rfl, rfl⟩
      rw [hd']
      go_wp2
      go_ret
      exact HF.out _ _ ⟨rfl, rfl⟩
    · by_cases hn2 : s.size ≤ n
      · go_enter Try.func46, Try.ntmps46
        go_wp2_with fail
        refine (down_any g s p w h).mono ?_
        rintro e w1 ⟨rfl, rfl⟩
        rw [hd']
        go_wp2
        go_ret
        exact HF.out _ _ ⟨rfl, rfl⟩
      · have hlb : ((l.length : Int) != 256) = true := by
          have : l.length ≠ 256 := by
            rcases hbad with h1 | h1 | h1
            · exact absurd h1 hn
            · exact absurd h1 hn2
            · exact h1
          simp; omega
        clear hbad
        go_enter Try.func46, Try.ntmps46
        go_wp2_with fail
        refine (down_any g s p w h).mono ?_
        rintro e w1 ⟨rfl, rfl⟩
        rw [hd']
        go_wp2
        go_ret
        exact HF.out _ _ ⟨rfl, rfl⟩
  have hn : ¬ n < 0 := fun x => hbad (.inl x)
  have hn2 : ¬ s.size ≤ n := fun x => hbad (.inr (.inl x))
  have hl256 : l.length = 256 := by
    rcases Nat.decEq l.length 256 with x | x
    · exact absurd (.inr (.inr x)) hbad
    · exact x
  have hlb : ((l.length : Int) != 256) = false := by simp; omega
  have HL := Lib.hid hl256
  clear hl256
  by_cases hz : s.fuse = 0
  · have hbb : burnB s = false := by simp [burnB, hz]
    go_enter Try.func46, Try.ntmps46
    go_wp2_with fail
    refine (down_any g s p w h).mono ?_
    rintro e w1 ⟨rfl, rfl⟩
    rw [hd']
    go_wp2_with fail
    refine (burn_any g s p w h hf).mono ?_
    rintro e w1 ⟨rfl, h1, hC1⟩
    rw [hbb]
    go_wp2
    go_ret
    unfold WriteD
    rw [if_neg hd, if_neg hbad, if_pos hz]
    exact ⟨rfl, h1, hC1⟩
  · have hbb : burnB s = true := by simp [burnB, hz]
    have be := burn_eq hz
    go_enter Try.func46, Try.ntmps46
    go_wp2_with fail
    refine (down_any g s p w h).mono ?_
    rintro e w1 ⟨rfl, rfl⟩
    rw [hd']
    go_wp2_with fail
    refine (burn_any g s p w h hf).mono ?_
    rintro e w1 ⟨rfl, h1, hC1⟩
    rw [hbb]
    have c7 : w1.cell? ⟨g, 7, none⟩ = some (.int .i64 (burnS s).a1) := h1.blk.cell 7
    have z7 := h1.blk.free 7
    go_wp2_with fail
    refine (add_any g 7 (burnS s).a1 w1 c7 z7).mono ?_
    rintro e w2 ⟨rfl, rfl⟩
    have h2 : DiskOf (w1.setCell ⟨g, 7, none⟩ (.int .i64 (wrap64 ((burnS s).a1 + 1)))) g { burnS s with a1 := wrap64 ((burnS s).a1 + 1) } p := h1.set_ 7 _ rfl rfl rfl rfl
    have hC2 : Chg w (w1.setCell ⟨g, 7, none⟩ (.int .i64 (wrap64 ((burnS s).a1 + 1)))) (fun k => k = g) := hC1.trans (Chg.setCell w1 ⟨g, 7, none⟩ _) fun i hi => .inl hi
    generalize hW : w1.setCell ⟨g, 7, none⟩ (.int .i64 (wrap64 ((burnS s).a1 + 1))) = W at *
    clear hW c7 z7
    have hcW := (hc.keep (h.bytes (hC2.mono fun i _ hi => .inl hi))).1
    go_wp2_with fail
    refine (clone_any A l c W hcW (by rw [HL.out]; decide)).mono ?_
    rintro e w3 ⟨v3, rfl, hown3, hb3⟩
    have hsec := own_sec hown3 HL.out ho
    have h3 := h2.below hb3
    obtain ⟨A3, c3', e3, _⟩ := hown3.shape
    subst e3
    have c1 : w3.cell? ⟨g, 1, none⟩ = some (.map (some p.gn)) := h3.blk.cell 1
    obtain ⟨w4, hrun, hM4, hg4, hs4⟩ := h3.now.update (P := Try.prog) (T := 56) (K := 3) (E := 37) Try.underlying56 Try.underlying3 n (.slice A3 l.length c3')
    clear hs4
    have hne : p.gn ≠ g := fun x => by
      have := h3.blk
      unfold Blk at this
      rw [← x] at this
      exact h3.now.notCells this
    have hb4 : Blk w4 g 65 (dcells { burnS s with a1 := wrap64 ((burnS s).a1 + 1) } p) := h3.blk.grown hg4 (fun e => hne (by injection e with e; exact e.symm))
    have c3 : w4.cell? ⟨g, 3, none⟩ = some p.vp := hb4.cell 3
    have z3 := hb4.free 3
    have hrow4 : w4.ownsRow 0 86 2 p.vp p.ps.length (flat p.ps) := h3.row.kept hg4 (by
      rcases hv : p.vp.ownBlock with _ | k
      · exact .inl rfl
      · refine .inr fun e => ?_
        injection e with e
        subst e
        obtain ⟨cur, hh⟩ := row_block h3.row hv
        exact h3.now.notCells hh)
    have hgv : p.vp.ownBlock ≠ some g := fun e => by
      obtain ⟨cur, hh⟩ := row_block h3.row e
      have := h3.blk
      unfold Blk at this
      rw [hh] at this
      injection this with this
      injection this with _ this
      exact absurd this (by decide)
    have hpl : p.ps.length ≤ 1000000000 := by have := h.pend.len; omega
    go_wp2_with (first | (at_builtin; refine appG_anyS Try.underlying57 info_write rfl (by decide) rfl (.tmp 47) (.tmp 51) rfl 0 p.vp p.ps.length (flat p.ps) rfl (hrow4.alloc _) _ _ 1 1 [.int .i64 n, .slice A3 l.length c3'] rfl (cells_blk w4 _ _) (by simp) (by intro u hu; simp at hu; rcases hu with rfl | rfl <;> rfl) (by unfold maxLen; omega) (by omega) (Nat.zero_le _) ?_; intro A5 c5 w5 hrow5 hg5; have hG5 := Grew.trans (Grew.alloc (v := p.vp) _) hg5; have hb5 : Blk w5 g 65 (dcells { burnS s with a1 := wrap64 ((burnS s).a1 + 1) } p) := hb4.grown hG5.by_ (fun e => hgv e.symm); have c35 : w5.cell? ⟨g, 3, none⟩ = some p.vp := hb5.cell 3; have z35 := hb5.free 3))
    go_ret
    obtain ⟨k1, k2, k3⟩ := h3.wrote hsec hM4 hg4 hrow5 hG5
    unfold WriteD
    rw [if_neg hd, if_neg hbad, if_neg hz]
    have hC3 : Chg w w3 (Foot g p) := (hC2.mono fun i _ hi => .inl hi).trans (Chg.of_below hb3 (fun _ => False)) fun i hi => hi.elim
    refine ⟨_, rfl, k1, hC3.trans k2 fun i hi => .inl hi, rfl, rfl, ?_⟩
    rcases k3 with e | e
    · exact .inl e
    · exact .inr fun k hk => Nat.le_trans hC3.size (e k hk)
end Go.Proofs.Ytkjbicenhncpeaa
