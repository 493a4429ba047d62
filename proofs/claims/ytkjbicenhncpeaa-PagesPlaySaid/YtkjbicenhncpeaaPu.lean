/-
  A script of acts on pages that came in; PagesLost' walk.
-/
import Derived.Test.YtkjbicenhncpeaaPt
import Derived.Test.YtkjbicenhncpeaaRw
set_option linter.unusedVariables false
namespace Go.Proofs.Ytkjbicenhncpeaa
open Go.ChangeShapes Go.WideShapes Go.ChangeAt Go.RowKit Go.Joins Go.Deep

/-- An act, as it lies in memory. -/
structure OpP where
  kind : Int
  n : Int
  m : Int
def OpP.cells (o : OpP) : List Value := [.int .i64 o.kind, .int .i64 o.n, .int .i64 o.m]
def In64 (x : Int) : Prop := -9223372036854775808 ≤ x ∧ x ≤ 9223372036854775807
structure OpP.Fits (W : World) (o : OpP) : Prop where
  hk : In64 o.kind
  hn : In64 o.n
  hm : In64 o.m
def opCells (l : List OpP) : List Value := l.flatMap OpP.cells
/-- A script at the address A. -/
structure Ops (W : World) (A : Option Addr) (l : List OpP) : Prop where
  cells : Cells W W.heap.size A (opCells l)
  fits : ∀ o ∈ l, o.Fits W
theorem OpP.Fits.below {W W' : World} {o : OpP} (h : o.Fits W) (hb : Below W.heap.size W W') : o.Fits W' := ⟨h.hk, h.hn, h.hm⟩
theorem Ops.below {W W' : World} {A : Option Addr} {l : List OpP} (h : Ops W A l) (hb : Below W.heap.size W W') : Ops W' A l := ⟨(h.cells.below hb).whole, fun o ho => (h.fits o ho).below hb⟩
theorem opCells_at : ∀ (l : List OpP) (i j : Nat) (hi : i < l.length), j < 3 → (opCells l)[i * 3 + j]? = (l[i]).cells[j]?
  | [], i, j, hi, hj => absurd hi (by simp)
  | o :: r, 0, j, hi, hj => by
    show (o.cells ++ opCells r)[0 * 3 + j]? = o.cells[j]?
    rw [List.getElem?_append_left (by show 0 * 3 + j < 3; omega)]
    congr 1
    omega
  | o :: r, i + 1, j, hi, hj => by
    show (o.cells ++ opCells r)[(i + 1) * 3 + j]? = _
    rw [List.getElem?_append_right (by show 3 ≤ _; omega)]
    have e : (i + 1) * 3 + j - o.cells.length = i * 3 + j := by show _ - 3 = _; omega
    rw [e, opCells_at r i j (by simpa using hi) hj]
    rfl
theorem opCells_len (l : List OpP) : (opCells l).length = l.length * 3 := by
  induction l with
  | nil => rfl
  | cons o r ih =>
    show (o.cells ++ opCells r).length = _
    rw [List.length_append, ih]
    show 3 + _ = _
    simp; omega
/-- The three cells of the act number i. -/
theorem Ops.at_ {W : World} {A : Option Addr} {l : List OpP} (h : Ops W A l) {i : Nat} (hi : i < l.length) :
    ∃ b off, A = some ⟨b, off, none⟩ ∧ b < W.heap.size ∧ W.cell? ⟨b, off + i * 3, none⟩ = some (.int .i64 (l[i]).kind) ∧ W.cell? ⟨b, off + i * 3 + 1, none⟩ = some (.int .i64 (l[i]).n) ∧ W.cell? ⟨b, off + i * 3 + 2, none⟩ = some (.int .i64 (l[i]).m) := by
  obtain ⟨b, off, rfl, hb, hc⟩ := h.cells.form (fun x => by
    have := opCells_len l
    rw [x] at this
    simp at this
    omega)
  refine ⟨b, off, rfl, hb, ?_, ?_, ?_⟩
  · exact hc (i * 3) _ (opCells_at l i 0 hi (by omega))
  · exact hc (i * 3 + 1) _ (opCells_at l i 1 hi (by omega))
  · exact hc (i * 3 + 2) _ (opCells_at l i 2 hi (by omega))

/-- One act that came in: three cells. -/
theorem op_in {H : Type} {enc : TypeId × Value → H} {W : World} {base : Nat} {spare : Nat → Bool} {held : Bool} {fuel : Nat} {cs : List Value} {x : DataW H × List MemPlace}
    (h : DataW.trod enc Try.prog W base spare held fuel 33 cs = some x) : ∃ o : OpP, cs = o.cells ∧ o.Fits W := by
  obtain ⟨ys, n, _, hy, hlen, hyl, hf⟩ := DataW.trod_struct Try.underlying33 h
  have h4 : Try.prog.cellsOf 33 = 3 := by kernel_rfl
  rw [h4] at hlen
  match cs, hlen with
  | [c0, c1, c2], _ =>
    have ci : Try.prog.cellsOf 3 = 1 := by kernel_rfl
    have hy4 : ys.length = 3 := hyl
    have k0 : DataW.trod enc Try.prog W base spare held n 3 (([c0, c1, c2].drop 0).take (Try.prog.cellsOf 3)) = ys[0]? := hf 0 _ rfl
    have k1 : DataW.trod enc Try.prog W base spare held n 3 (([c0, c1, c2].drop 1).take (Try.prog.cellsOf 3)) = ys[1]? := hf 1 _ rfl
    have k2 : DataW.trod enc Try.prog W base spare held n 3 (([c0, c1, c2].drop 2).take (Try.prog.cellsOf 3)) = ys[2]? := hf 2 _ rfl
    rw [ci, List.getElem?_eq_getElem (by omega)] at k0 k1 k2
    obtain ⟨a0, e0, _, w0⟩ := DataW.trod_int Try.underlying3 k0
    obtain ⟨a1, e1, _, w1⟩ := DataW.trod_int Try.underlying3 k1
    obtain ⟨a2, e2, _, w2⟩ := DataW.trod_int Try.underlying3 k2
    simp at e0 e1 e2
    subst e0 e1 e2
    exact ⟨⟨a0, a1, a2⟩, rfl, bounds_i64 w0, bounds_i64 w1, bounds_i64 w2⟩

/-- A script that came in. -/
theorem ops_in {H : Type} {enc : TypeId × Value → H} {W : World} {base : Nat} {spare : Nat → Bool} {held : Bool} {fuel : Nat} {a : Option Addr} {n c : Nat} {x : DataW H × List MemPlace}
    (h : DataW.trod enc Try.prog W base spare held fuel 22 [.slice a n c] = some x) : ∃ l : List OpP, n = l.length ∧ l.length ≤ c ∧ c ≤ maxLen ∧ Ops W a l := by
  rcases open_slice Try.underlying22 h with ⟨hcs, _⟩ | ⟨ad, len, cap, m, f, D, Pl, hcs, _, hl, hm, hmm, _, hat⟩
  · simp at hcs
    obtain ⟨rfl, rfl, rfl⟩ := hcs
    exact ⟨[], rfl, by simp, by simp, Cells.nil, by simp⟩
  · simp at hcs
    obtain ⟨rfl, rfl, rfl⟩ := hcs
    obtain ⟨b, off, spot⟩ := ad
    have h4 : Try.prog.cellsOf 33 = 3 := by kernel_rfl
    rw [h4] at hat
    have hln : n ≤ m := by rw [hmm]; split <;> omega
    have hb : ∀ i, ∃ o : OpP, i < n → o.Fits W ∧ ∀ j, j < 3 → W.cell? ((⟨b, off, spot⟩ : Addr).add (i * 3) |>.add j) = o.cells[j]? := fun i => by
      by_cases hi : i < n
      · obtain ⟨cs', hc, ht⟩ := hat i (by omega)
        obtain ⟨o, rfl, hfit⟩ := op_in ht
        obtain ⟨_, _, hcl⟩ := World.cells?_some hc
        exact ⟨o, fun _ => ⟨hfit, hcl⟩⟩
      · exact ⟨⟨0, 0, 0⟩, fun h => absurd h hi⟩
    obtain ⟨f, hf⟩ : ∃ f : Nat → OpP, ∀ i, i < n → (f i).Fits W ∧ ∀ j, j < 3 → W.cell? ((⟨b, off, spot⟩ : Addr).add (i * 3) |>.add j) = (f i).cells[j]? := ⟨fun i => (hb i).choose, fun i => (hb i).choose_spec⟩
    refine ⟨(List.range n).map f, by simp, by simp; omega, hm, fun k u hu => ?_, fun o ho => ?_⟩
    · have hk : k < (opCells ((List.range n).map f)).length := by
        rcases Nat.lt_or_ge k (opCells ((List.range n).map f)).length with h | h
        · exact h
        · rw [List.getElem?_eq_none h] at hu; cases hu
      rw [opCells_len] at hk
      simp at hk
      have hi : k / 3 < n := by omega
      have e := opCells_at ((List.range n).map f) (k / 3) (k % 3) (by simpa using hi) (Nat.mod_lt _ (by decide))
      rw [show k / 3 * 3 + k % 3 = k by omega, hu] at e
      simp only [List.getElem_map, List.getElem_range] at e
      have hc := (hf _ hi).2 (k % 3) (Nat.mod_lt _ (by decide))
      rw [← e] at hc
      have hc0 := (hf 0 (by omega)).2 0 (by decide)
      have hspot : spot = none := by
        have := World.cell?_spot hc0
        simpa [Addr.add] using this
      subst hspot
      rw [add_mk, add_mk, show off + k / 3 * 3 + k % 3 = off + k by omega] at hc
      exact ⟨b, off, rfl, World.block_lt_of_cell? W _ hc, hc⟩
    · obtain ⟨i, hi, rfl⟩ := List.mem_map.1 ho
      exact (hf i (by simpa using hi)).1


theorem page_v (m : Int) (w : World) :
    Calls Try.prog 11 #[.int .i64 m] w fun e w' => ∃ A c N, e = .returned (.slice A N c) ∧ N = (pgL m).length ∧ Cells w' w'.heap.size A (U8 (pgL m)) ∧ Below w.heap.size w w' := by
  refine (page_any m w).mono ?_
  rintro e w' ⟨rfl, hb, hB⟩
  refine ⟨_, _, _, rfl, by rw [pgL_len], fun k u hu => ⟨_, 0, rfl, heap_lt hb, ?_⟩, hB⟩
  rw [Nat.zero_add, hb.cell k, ← Array.getElem?_toList]
  exact hu
/-- Pages that go on; those that are over. -/
def LiveP (B g gd n : Nat) (w : World) : Prop := ∃ s t F, PD w g gd s t F ∧ PInv s t ∧ s.pool = 2 ∧ t.pend.length ≤ n ∧ ∀ k, F k → B ≤ k
def DeadP (B g gd : Nat) (w : World) : Prop := w.cell? ⟨g, 6, none⟩ = some (.bool true) ∧ ∃ t D, DiskAt w gd t D ∧ t.down = true
def StP (B g gd n : Nat) (over : Bool) (w : World) : Prop := (over = false ∧ LiveP B g gd n w) ∨ (over = true ∧ DeadP B g gd w)
theorem LiveP.mono {B g gd n m : Nat} {w : World} (h : LiveP B g gd n w) (hm : n ≤ m) : LiveP B g gd m w := by
  obtain ⟨s, t, F, a, b, c, d, e⟩ := h
  exact ⟨s, t, F, a, b, c, by omega, e⟩
theorem StP.mono {B g gd n m : Nat} {o : Bool} {w : World} (h : StP B g gd n o w) (hm : n ≤ m) : StP B g gd m o w := h.imp (fun x => ⟨x.1, x.2.mono hm⟩) id
theorem StP.below {B g gd n : Nat} {o : Bool} {w w' : World} (h : StP B g gd n o w) (hb : Below w.heap.size w w') : StP B g gd n o w' := by
  rcases h with ⟨ho, s, t, F, a, b, c, d, e⟩ | ⟨ho, hc, t, D, hd, hdn⟩
  · exact .inl ⟨ho, s, t, F, a.below hb, b, c, d, e⟩
  · exact .inr ⟨ho, (hb.cell (p := ⟨g, 6, none⟩) (World.block_lt_of_cell? w _ hc)).trans hc, t, D, hd.below hb, hdn⟩
/-- An act was done; y is what is answered. -/
def Acted (B g gd n : Nat) (o : Bool) (w : World) (y : Int) (w' : World) : Prop := Below B w w' ∧ StP B g gd n (y == 7) w' ∧ (o = true → y = 7)
theorem Acted.live {B g gd n m : Nat} {w w' : World} {y : Int} {s s' : PG} {ds t : DS} {F : Nat → Prop} {is' : List Int} {j : Int} {l : List Int} {k : Nat} (hB : B ≤ w.heap.size) (hF : ∀ k, F k → B ≤ k) (hp : s.pool = 2) (hd : ds.pend.length ≤ n) (hn : Next s ds is' j l k s' t) (hk : k ≤ 8) (ho : OnPD g gd w F s' t w') (hy : y ≠ 7) : Acted B g gd (n + 8) false w y w' := by
  obtain ⟨F', h1, h2, h3⟩ := ho
  refine ⟨h2.below hB hF, .inl ⟨by simpa using hy, s', t, F', h1, hn.inv, by rw [hn.pool, hp], by have := hn.step.pend; omega, fun k hk => ?_⟩, fun h => by cases h⟩
  rcases h3 k hk with x | x
  · exact hF k x
  · omega
theorem Acted.dead {B g gd n : Nat} {w w' : World} {F : Nat → Prop} {o : Bool} (hB : B ≤ w.heap.size) (hF : ∀ k, F k → B ≤ k) (h : Dead g gd w F w') : Acted B g gd n o w 7 w' := by
  obtain ⟨a1, a2, ⟨t, D, a3, a4, _⟩, a5⟩ := h
  exact ⟨a5.below hB hF, .inr ⟨rfl, a1, t, D, a3, a4⟩, fun _ => rfl⟩
theorem Acted.over {B g gd n : Nat} {w : World} (h : DeadP B g gd w) : Acted B g gd n true w 7 w := ⟨Below.refl _ _, .inr ⟨rfl, h⟩, fun _ => rfl⟩
theorem Next.refl {s : PG} {ds : DS} (h : PInv s ds) : Next s ds s.is 0 (content s ds 0) 0 s ds := ⟨rfl, rfl, rfl, h, DStep.refl _ _, fun m => by
  split
  · rename_i e; rw [e]
  · rfl⟩
theorem Same.next {s s' : PG} {ds t : DS} {k : Nat} (h : Same s ds k s' t) : Next s ds s.is 0 (content s ds 0) k s' t := ⟨h.is, h.frm, h.pool, h.inv, h.step, fun m => by
  rw [h.cont m]
  split
  · rename_i e; rw [e]
  · rfl⟩
section
variable {B g gd n : Nat} {o : Bool} {w : World} (h : StP B g gd n o w) (hB : B ≤ w.heap.size) (hn : n ≤ 80000000)
include h hB hn
theorem alloc_st : Calls Try.prog 9 #[.pointer (some ⟨g, 0, none⟩)] w fun e w' => ∃ x y, e = .returned (.tuple #[.int .i64 x, .int .i64 y]) ∧ Acted B g gd (n + 8) o w y w' := by
  rcases h with ⟨rfl, s, t, F, a, b, c, d, e⟩ | ⟨rfl, hd⟩
  · refine (alloc_any g gd s t F w a b (by omega)).mono ?_
    rintro e0 w' (⟨_, rfl, ho⟩ | ⟨i, _, _, ⟨s', t', rfl, hnx, ho⟩ | ⟨rfl, _, hdd⟩⟩)
    · exact ⟨_, _, rfl, Acted.live (m := 0) hB e c d (Next.refl b) (by omega) ho (by decide)⟩
    · exact ⟨_, _, rfl, Acted.live (m := 0) hB e c d hnx (by omega) ho (by decide)⟩
    · exact ⟨_, _, rfl, Acted.dead hB e hdd⟩
  · refine (alloc_over g w hd.1).mono ?_
    rintro e0 w' ⟨rfl, rfl⟩
    exact ⟨_, _, rfl, Acted.over hd⟩
theorem put_st (j : Int) (A : Option Addr) (b : List Int) (c : Nat) (hc : Cells w w.heap.size A (U8 b)) (hob : Oct b) (hbl : b.length ≤ 100000000) : Calls Try.prog 10 #[.pointer (some ⟨g, 0, none⟩), .int .i64 j, .slice A b.length c] w fun e w' => ∃ y, e = .returned (.int .i64 y) ∧ Acted B g gd (n + 8) o w y w' := by
  rcases h with ⟨rfl, s, t, F, a, b', c', d, e⟩ | ⟨rfl, hd⟩
  · refine (pput_any g gd s t F j A b c w a b' (by omega) hc hob hbl).mono ?_
    rintro e0 w' (⟨_, rfl, ho⟩ | ⟨_, _, ⟨s', t', rfl, hnx, ho⟩ | ⟨rfl, _, hdd⟩⟩)
    · exact ⟨_, rfl, Acted.live (m := 0) hB e c' d (Next.refl b') (by omega) ho (by decide)⟩
    · exact ⟨_, rfl, Acted.live (m := 0) hB e c' d hnx (by omega) ho (by decide)⟩
    · exact ⟨_, rfl, Acted.dead hB e hdd⟩
  · refine (pput_over g j _ w hd.1).mono ?_
    rintro e0 w' ⟨rfl, rfl⟩
    exact ⟨_, rfl, Acted.over hd⟩
theorem get_st (j : Int) : Calls Try.prog 12 #[.pointer (some ⟨g, 0, none⟩), .int .i64 j] w fun e w' => ∃ v y, e = .returned (.tuple #[v, .int .i64 y]) ∧ Acted B g gd (n + 8) o w y w' := by
  rcases h with ⟨rfl, s, t, F, a, b, c, d, e⟩ | ⟨rfl, hd⟩
  · refine (get_any g gd s t F j w a b (by omega)).mono ?_
    rintro e0 w' (⟨_, rfl, ho⟩ | ⟨_, ⟨s', t', v, rfl, _, _, _, hnx, ho⟩ | ⟨rfl, _, hdd⟩⟩)
    · exact ⟨_, _, rfl, Acted.live (m := 0) hB e c d (Next.refl b) (by omega) ho (by decide)⟩
    · exact ⟨_, _, rfl, Acted.live (m := 0) hB e c d hnx (by omega) ho (by decide)⟩
    · exact ⟨_, _, rfl, Acted.dead hB e hdd⟩
  · refine (get_over g j w hd.1).mono ?_
    rintro e0 w' ⟨rfl, rfl⟩
    exact ⟨_, _, rfl, Acted.over hd⟩
theorem free_st (j : Int) : Calls Try.prog 13 #[.pointer (some ⟨g, 0, none⟩), .int .i64 j] w fun e w' => ∃ y, e = .returned (.int .i64 y) ∧ Acted B g gd (n + 8) o w y w' := by
  rcases h with ⟨rfl, s, t, F, a, b, c, d, e⟩ | ⟨rfl, hd⟩
  · have hn2 := hn
    refine (free_any g gd s t F j w a b).mono ?_
    rintro e0 w' (⟨_, rfl, ho⟩ | ⟨_, rfl, s', l, hnx, ho⟩)
    · exact ⟨_, rfl, Acted.live (m := 0) hB e c d (Next.refl b) (by omega) ho (by decide)⟩
    · exact ⟨_, rfl, Acted.live (m := 0) hB e c d hnx (by omega) ho (by decide)⟩
  · refine (free_over g j w hd.1).mono ?_
    rintro e0 w' ⟨rfl, rfl⟩
    exact ⟨_, rfl, Acted.over hd⟩
theorem flush_st : Calls Try.prog 14 #[.pointer (some ⟨g, 0, none⟩)] w fun e w' => ∃ y, e = .returned (.int .i64 y) ∧ Acted B g gd (n + 8) o w y w' := by
  rcases h with ⟨rfl, s, t, F, a, b, c, d, e⟩ | ⟨rfl, hd⟩
  · refine (flush_any g gd s t F w a b (by omega)).mono ?_
    rintro e0 w' (⟨rfl, s', t', hs, ho⟩ | ⟨rfl, _, hdd⟩)
    · exact ⟨_, rfl, Acted.live (m := 0) hB e c d hs.next (by have := b.cap; omega) ho (by decide)⟩
    · exact ⟨_, rfl, Acted.dead hB e hdd⟩
  · refine (flush_over g w hd.1).mono ?_
    rintro e0 w' ⟨rfl, rfl⟩
    exact ⟨_, rfl, Acted.over hd⟩
end
theorem PD.acts {g gd : Nat} {w w' : World} {s : PG} {ds ds' : DS} {F : Nat → Prop} {p : PP} {D : Nat → Prop} (h1 : PagesOf w g gd s p) (h2 : DiskAt w gd ds D) (h3 : ¬ D p.gm) (hF : ∀ k, F k ↔ (FootP g s p k ∨ D k)) (ho : OnD gd w D ds' w') : OnPD g gd w F s ds' w' := by
  obtain ⟨k1, D', k2, k3, k4, k5⟩ := h1.onDisk h2 h3 ho
  refine ⟨fun k => FootP g s p k ∨ D' k, ⟨p, D', k1, k2, k3, fun _ => Iff.rfl⟩, k4.mono fun k _ hk => (hF k).2 (.inr hk), fun k hk => ?_⟩
  rcases hk with hk | hk
  · exact .inl ((hF k).2 (.inl hk))
  · exact (k5 k hk).imp_left fun x => (hF k).2 (.inr x)
theorem PInv.fused {s : PG} {ds : DS} (h : PInv s ds) (x : Int) (hx : x ≤ 9223372036854775807) : PInv s { ds with fuse := x } := ⟨h.nodup, h.rng, h.keys, h.cap, h.pool1, h.clean, h.frm, h.end_, h.size, hx⟩

set_option maxHeartbeats 16000000 in
set_option maxRecDepth 20000 in
theorem lost_walk (A : Option Addr) (ops : List OpP) (c : Nat) (fz : Int) (W : World) (hops : Ops W A ops) (hol : ops.length ≤ 9223372036854775807) (hf0 : 0 ≤ fz) (hf1 : fz ≤ 255) :
    Calls Try.prog 3 #[.slice A ops.length c, .int .u8 fz] W fun e W' => e = .returned (.bool true) ∧ Below W.heap.size W W' := by
  obtain ⟨L, hL⟩ : ∃ L, ops.length = L := ⟨_, rfl⟩
  rw [hL] at hol ⊢
  have HL := Lib.hid hL
  have HOPS := Lib.hid hops
  clear hL hops
  go_enter Try.func3, Try.ntmps3
  go_wp2_with fail
  refine (awake_any W).mono ?_
  rintro e w0 ⟨rfl, hb0⟩
  by_cases hlen : L ≤ 60
  · have hlI : ¬ (L : Int) > 60 := by omega
    have hHB0 := Lib.hid hb0
    clear hb0
    go_wp2_with fail
    refine (new_w 40 w0).mono ?_
    rintro e w1 ⟨gd, D, rfl, hD, hDw, hB1⟩
    have hB2 : Below w1.heap.size w1 (w1.alloc (.cells #[.int .i64 0, .int .i64 1, .int .i64 2] 3)) := (Below.refl _ _).alloc (Nat.le_refl _) _
    have hO := open_any gd (newDS 40) D 0 2 10 (some ⟨w1.heap.size, 0, none⟩) [0, 1, 2] 3 (w1.alloc (.cells #[.int .i64 0, .int .i64 1, .int .i64 2] 3)) (hD.below hB2) (by decide) (by decide) (by decide) (by decide) (fun k u hu => by
      obtain ⟨b, off, e, h1, h2⟩ := (cells_blk w1 #[.int .i64 0, .int .i64 1, .int .i64 2] 3) k u hu
      exact ⟨b, off, e, by simp; exact h1, h2⟩) (by decide) (by decide) (by decide)
    have HO := Lib.hid hO
    have HB1 := Lib.hid hB1
    have HB2 := Lib.hid hB2
    have HDW := Lib.hid hDw
    clear hO hD hDw hB1 hB2
    go_wp2_with fail
    refine HO.out.mono ?_
    rintro e w3 ⟨g, F', rfl, hpd, hF', hB3⟩
    have hsz0 := hHB0.out.size
    have hsz1 := HB1.out.size
    have hsz2 := HB2.out.size
    have hsz3 := hB3.size
    have hF0 : ∀ k, F' k → W.heap.size ≤ k := fun k hk => by
      rcases hF' k hk with x | x
      · have := HDW.out k x; omega
      · omega
    have hBW3 : Below W.heap.size W w3 := ((hHB0.out.trans (HB1.out.mono hsz0)).trans (HB2.out.mono (by omega))).trans (hB3.mono (by omega))
    have hinv := newPG_inv 0 2 (heldL 10 [0, 1, 2]) (newDS 40) (by decide) (by decide) (by decide) (by decide) (by decide)
    obtain ⟨p, D3, q1, q2, q3, q4⟩ := hpd
    have HFU := Lib.hid (fuse_w gd (newDS 40) D3 fz w3 q2)
    have HACT : Hid (∀ w', OnD gd w3 D3 { newDS 40 with fuse := max fz (-1) } w' → OnPD g gd w3 F' (newPG 0 2 (heldL 10 [0, 1, 2])) { newDS 40 with fuse := max fz (-1) } w') := Lib.hid fun w' ho => PD.acts q1 q2 q3 q4 ho
    have HF0 := Lib.hid hF0
    have HBW3 := Lib.hid hBW3
    have HINV := Lib.hid (hinv.fused (max fz (-1)) (by omega))
    have HLE : Hid (W.heap.size ≤ w3.heap.size) := Lib.hid (by omega)
    clear q1 q2 q3 q4 hF' hB3 hsz0 hsz1 hsz2 hsz3 hF0 hBW3 hinv
    go_wp2_with fail
    refine HFU.out.mono ?_
    rintro e w4 ⟨rfl, ho4⟩
    obtain ⟨F4, r1, r2, r3⟩ := HACT.out w4 ho4
    have hSt : StP W.heap.size g gd 0 false w4 := .inl ⟨rfl, _, _, F4, r1, HINV.out, rfl, Nat.le_refl _, fun k hk => by
      rcases r3 k hk with x | x
      · exact HF0.out k x
      · exact Nat.le_trans HLE.out x⟩
    have hBW4 : Below W.heap.size W w4 := HBW3.out.trans (r2.below HLE.out HF0.out)
    have HST := Lib.hid hSt
    have HBW4 := Lib.hid hBW4
    clear ho4 r1 r2 r3 hSt hBW4
    go_wp2
    go_loopw [8, 9] (fun vo vi wr => ∃ (k : Nat) (o : Bool), vi = .int .i64 k ∧ k ≤ L ∧ vo = .bool o ∧ Below W.heap.size W wr ∧ StP W.heap.size g gd (8 * k) o wr) (fun _ vi _ => L - (RowKit.intOf vi).toNat)
    case atStart => exact ⟨0, false, rfl, Nat.zero_le _, rfl, HBW4.out, HST.out⟩
    case round =>
      obtain ⟨k, o, rfl, hk, rfl, hB, hst⟩ := hrel
      by_cases hlt : k < L
      · have hkI : (k : Int) < (L : Int) := by omega
        have hkl : k < ops.length := by rw [HL.out]; exact hlt
        obtain ⟨b, off, rfl, hbW, c0, c1, c2⟩ := HOPS.out.at_ hkl
        obtain ⟨op, hop⟩ : ∃ op, ops[k] = op := ⟨_, rfl⟩
        rw [hop] at c0 c1 c2
        have d0 : wr.cell? ⟨b, off + k * 3, none⟩ = some (.int .i64 op.kind) := (hB.cell (p := ⟨b, off + k * 3, none⟩) hbW).trans c0
        have d1 : wr.cell? ⟨b, off + k * 3 + 1, none⟩ = some (.int .i64 op.n) := (hB.cell (p := ⟨b, off + k * 3 + 1, none⟩) hbW).trans c1
        have hszB := hB.size
        have HB := Lib.hid hB
        have HS := Lib.hid hst
        have HBW := Lib.hid hbW
        have HSZ := Lib.hid hszB
        clear c0 c1 c2 hop hkl hB hst hbW hszB
        by_cases h1 : op.kind = 1
        · rw [h1] at d0
          clear h1
          have HA := Lib.hid (alloc_st HS.out HSZ.out (by omega))
          go_wp2_with fail
          refine HA.out.mono ?_
          rintro e w5 ⟨x, y, rfl, hac⟩
          obtain ⟨hb5, hs5, hoy⟩ := hac
          have HBN := Lib.hid (HB.out.trans hb5)
          have HSN := Lib.hid hs5
          clear hb5 hs5
          by_cases hy : y = 7
          · subst hy
            obtain ⟨_, hlv⟩ | ⟨_, hdd⟩ := HSN.out
            · rename_i hx; exact absurd hx (by decide)
            · obtain ⟨hc6, t, D7, hd7, hdn⟩ := hdd
              have hDW := down_w gd t D7 w5 hd7
              rw [hdn] at hDW
              have HDW := Lib.hid hDW
              clear hDW hd7 hdn hc6 hoy
              rcases o with _ | _
              all_goals
                go_wp2_with (first | (go_at_call 15; refine HDW.out.mono ?_; rintro e w6 ⟨rfl, rfl⟩))
                go_roundw
                case rel => exact ⟨k + 1, true, by go_num, by omega, rfl, HBN.out, HSN.out⟩
                case measure => simp [RowKit.intOf]; omega
          · rcases o with _ | _
            · have hy1 : (y == 7) = false := by simpa using hy
              have hy2 : (y != 7) = true := by simpa using hy
              have HSN2 : Hid (StP W.heap.size g gd (8 * k + 8) false w5) := Lib.hid (by rw [← hy1]; exact HSN.out)
              clear HSN hoy hy
              go_wp2
              go_roundw
              case rel => exact ⟨k + 1, false, by go_num, by omega, rfl, HBN.out, HSN2.out⟩
              case measure => simp [RowKit.intOf]; omega
            · exact absurd (hoy rfl) hy
        have e1 : (op.kind == 1) = false := by simpa using h1
        clear h1
        by_cases h2 : op.kind = 2
        · rw [h2] at d0
          clear h2
          have HPG : Hid (∀ w', w' = wr.drew → Calls Try.prog 11 #[.int .i64 1] w' fun e w5 => ∃ A5 c5 N5, e = .returned (.slice A5 N5 c5) ∧ Below wr.heap.size wr w5 ∧ w5.cell? ⟨b, off + k * 3 + 1, none⟩ = some (.int .i64 op.n) ∧ Calls Try.prog 10 #[.pointer (some ⟨g, 0, none⟩), .int .i64 op.n, .slice A5 N5 c5] w5 fun e w' => ∃ y, e = .returned (.int .i64 y) ∧ Acted W.heap.size g gd (8 * k + 8) o w5 y w') := Lib.hid fun w' e => by
            subst e
            refine (page_v 1 wr.drew).mono ?_
            rintro e w5 ⟨A5, c5, N5, rfl, hN5, hcell5, hb5⟩
            have hb5' : Below wr.heap.size wr w5 := (Below.refl _ _).drew.trans hb5
            refine ⟨A5, c5, N5, rfl, hb5', (hb5'.cell (p := ⟨b, off + k * 3 + 1, none⟩) (Nat.lt_of_lt_of_le HBW.out HSZ.out)).trans d1, ?_⟩
            rw [hN5]
            exact put_st (HS.out.below hb5') (Nat.le_trans HSZ.out hb5'.size) (by omega) op.n A5 (pgL 1) c5 hcell5 (pgL_oct 1) (by rw [pgL_len]; decide)
          go_wp2
          go_region_held3 (fun w' => w'.cell? ⟨b, off + k * 3 + 1, none⟩ = some (.int .i64 op.n)) (go_keep) (first | (go_at_call 11; refine (HPG.out _ rfl).mono ?_; rintro e w4 ⟨A5, c5, N5, rfl, hb4, hd14, hput⟩; have HB4 := Lib.hid hb4; have HPUT := Lib.hid hput; clear hb4 hput) | (go_at_call 10; refine HPUT.out.mono ?_; rintro e w5 ⟨y, rfl, hac⟩; have d15 : w5.cell? ⟨b, off + k * 3 + 1, none⟩ = some (.int .i64 op.n) := (hac.1.cell (p := ⟨b, off + k * 3 + 1, none⟩) HBW.out).trans hd14))
          replace hac : Acted W.heap.size g gd (8 * k + 8) o wr y w5 := ⟨(HB4.out.mono HSZ.out).trans hac.1, hac.2⟩
          clear hd14 d15
          obtain ⟨hb5, hs5, hoy⟩ := hac
          have HBN := Lib.hid (HB.out.trans hb5)
          have HSN := Lib.hid hs5
          clear hb5 hs5
          by_cases hy : y = 7
          · subst hy
            obtain ⟨_, hlv⟩ | ⟨_, hdd⟩ := HSN.out
            · rename_i hx; exact absurd hx (by decide)
            · obtain ⟨hc6, t, D7, hd7, hdn⟩ := hdd
              have hDW := down_w gd t D7 w5 hd7
              rw [hdn] at hDW
              have HDW := Lib.hid hDW
              clear hDW hd7 hdn hc6 hoy
              rcases o with _ | _
              all_goals
                go_wp2_with (first | (go_at_call 15; refine HDW.out.mono ?_; rintro e w6 ⟨rfl, rfl⟩))
                go_roundw
                case rel => exact ⟨k + 1, true, by go_num, by omega, rfl, HBN.out, HSN.out⟩
                case measure => simp [RowKit.intOf]; omega
          · rcases o with _ | _
            · have hy1 : (y == 7) = false := by simpa using hy
              have hy2 : (y != 7) = true := by simpa using hy
              have HSN2 : Hid (StP W.heap.size g gd (8 * k + 8) false w5) := Lib.hid (by rw [← hy1]; exact HSN.out)
              clear HSN hoy hy
              go_wp2
              go_roundw
              case rel => exact ⟨k + 1, false, by go_num, by omega, rfl, HBN.out, HSN2.out⟩
              case measure => simp [RowKit.intOf]; omega
            · exact absurd (hoy rfl) hy
        have e2 : (op.kind == 2) = false := by simpa using h2
        clear h2
        by_cases h3 : op.kind = 3
        · rw [h3] at d0
          clear h3
          have HA := Lib.hid (get_st HS.out HSZ.out (by omega) op.n)
          go_wp2_with fail
          refine HA.out.mono ?_
          rintro e w5 ⟨v, y, rfl, hac⟩
          obtain ⟨hb5, hs5, hoy⟩ := hac
          have HBN := Lib.hid (HB.out.trans hb5)
          have HSN := Lib.hid hs5
          clear hb5 hs5
          by_cases hy : y = 7
          · subst hy
            obtain ⟨_, hlv⟩ | ⟨_, hdd⟩ := HSN.out
            · rename_i hx; exact absurd hx (by decide)
            · obtain ⟨hc6, t, D7, hd7, hdn⟩ := hdd
              have hDW := down_w gd t D7 w5 hd7
              rw [hdn] at hDW
              have HDW := Lib.hid hDW
              clear hDW hd7 hdn hc6 hoy
              rcases o with _ | _
              all_goals
                go_wp2_with (first | (go_at_call 15; refine HDW.out.mono ?_; rintro e w6 ⟨rfl, rfl⟩))
                go_roundw
                case rel => exact ⟨k + 1, true, by go_num, by omega, rfl, HBN.out, HSN.out⟩
                case measure => simp [RowKit.intOf]; omega
          · rcases o with _ | _
            · have hy1 : (y == 7) = false := by simpa using hy
              have hy2 : (y != 7) = true := by simpa using hy
              have HSN2 : Hid (StP W.heap.size g gd (8 * k + 8) false w5) := Lib.hid (by rw [← hy1]; exact HSN.out)
              clear HSN hoy hy
              go_wp2
              go_roundw
              case rel => exact ⟨k + 1, false, by go_num, by omega, rfl, HBN.out, HSN2.out⟩
              case measure => simp [RowKit.intOf]; omega
            · exact absurd (hoy rfl) hy
        have e3 : (op.kind == 3) = false := by simpa using h3
        clear h3
        by_cases h4 : op.kind = 4
        · rw [h4] at d0
          clear h4
          have HA := Lib.hid (free_st HS.out HSZ.out (by omega) op.n)
          go_wp2_with fail
          refine HA.out.mono ?_
          rintro e w5 ⟨y, rfl, hac⟩
          obtain ⟨hb5, hs5, hoy⟩ := hac
          have HBN := Lib.hid (HB.out.trans hb5)
          have HSN := Lib.hid hs5
          clear hb5 hs5
          by_cases hy : y = 7
          · subst hy
            obtain ⟨_, hlv⟩ | ⟨_, hdd⟩ := HSN.out
            · rename_i hx; exact absurd hx (by decide)
            · obtain ⟨hc6, t, D7, hd7, hdn⟩ := hdd
              have hDW := down_w gd t D7 w5 hd7
              rw [hdn] at hDW
              have HDW := Lib.hid hDW
              clear hDW hd7 hdn hc6 hoy
              rcases o with _ | _
              all_goals
                go_wp2_with (first | (go_at_call 15; refine HDW.out.mono ?_; rintro e w6 ⟨rfl, rfl⟩))
                go_roundw
                case rel => exact ⟨k + 1, true, by go_num, by omega, rfl, HBN.out, HSN.out⟩
                case measure => simp [RowKit.intOf]; omega
          · rcases o with _ | _
            · have hy1 : (y == 7) = false := by simpa using hy
              have hy2 : (y != 7) = true := by simpa using hy
              have HSN2 : Hid (StP W.heap.size g gd (8 * k + 8) false w5) := Lib.hid (by rw [← hy1]; exact HSN.out)
              clear HSN hoy hy
              go_wp2
              go_roundw
              case rel => exact ⟨k + 1, false, by go_num, by omega, rfl, HBN.out, HSN2.out⟩
              case measure => simp [RowKit.intOf]; omega
            · exact absurd (hoy rfl) hy
        have e4 : (op.kind == 4) = false := by simpa using h4
        clear h4
        by_cases h5 : op.kind = 5
        · rw [h5] at d0
          clear h5
          have HA := Lib.hid (flush_st HS.out HSZ.out (by omega))
          go_wp2_with fail
          refine HA.out.mono ?_
          rintro e w5 ⟨y, rfl, hac⟩
          obtain ⟨hb5, hs5, hoy⟩ := hac
          have HBN := Lib.hid (HB.out.trans hb5)
          have HSN := Lib.hid hs5
          clear hb5 hs5
          by_cases hy : y = 7
          · subst hy
            obtain ⟨_, hlv⟩ | ⟨_, hdd⟩ := HSN.out
            · rename_i hx; exact absurd hx (by decide)
            · obtain ⟨hc6, t, D7, hd7, hdn⟩ := hdd
              have hDW := down_w gd t D7 w5 hd7
              rw [hdn] at hDW
              have HDW := Lib.hid hDW
              clear hDW hd7 hdn hc6 hoy
              rcases o with _ | _
              all_goals
                go_wp2_with (first | (go_at_call 15; refine HDW.out.mono ?_; rintro e w6 ⟨rfl, rfl⟩))
                go_roundw
                case rel => exact ⟨k + 1, true, by go_num, by omega, rfl, HBN.out, HSN.out⟩
                case measure => simp [RowKit.intOf]; omega
          · rcases o with _ | _
            · have hy1 : (y == 7) = false := by simpa using hy
              have hy2 : (y != 7) = true := by simpa using hy
              have HSN2 : Hid (StP W.heap.size g gd (8 * k + 8) false w5) := Lib.hid (by rw [← hy1]; exact HSN.out)
              clear HSN hoy hy
              go_wp2
              go_roundw
              case rel => exact ⟨k + 1, false, by go_num, by omega, rfl, HBN.out, HSN2.out⟩
              case measure => simp [RowKit.intOf]; omega
            · exact absurd (hoy rfl) hy
        have e5 : (op.kind == 5) = false := by simpa using h5
        clear h5
        go_wp2
        go_roundw
        case rel => exact ⟨k + 1, o, by go_num, by omega, rfl, HB.out, HS.out.mono (by omega)⟩
        case measure => simp [RowKit.intOf]; omega
      · have hkI : ¬ (k : Int) < (L : Int) := by omega
        have HB := Lib.hid hB
        clear hB hst
        go_wp2_with (first
          | (go_at_call 16; refine (settle_nil _).mono ?_; rintro e w1 ⟨rfl, rfl⟩)
          | (go_at_call 9; refine (alloc_nil _).mono ?_; rintro e w1 ⟨rfl, rfl⟩)
          | (go_at_call 12; refine (get_nil _ _).mono ?_; rintro e w1 ⟨rfl, rfl⟩)
          | (go_at_call 11; refine (page_v 0 _).mono ?_; rintro e w9 ⟨A9, c9, N9, rfl, hN9, hc9, hb9⟩; have HB9 := Lib.hid hb9; clear hN9 hc9 hb9)
          | (go_at_call 10; refine (pput_nil _ _ _).mono ?_; rintro e w1 ⟨rfl, rfl⟩)
          | (go_at_call 13; refine (free_nil _ _).mono ?_; rintro e w1 ⟨rfl, rfl⟩)
          | (go_at_call 14; refine (flush_nil _).mono ?_; rintro e w1 ⟨rfl, rfl⟩)
          | (go_at_call 17; refine (room_nil _).mono ?_; rintro e w1 ⟨rfl, rfl⟩)
          | (go_at_call 18; refine (used_nil _).mono ?_; rintro e w1 ⟨rfl, rfl⟩)
          | (go_at_call 19; refine (cached_nil _).mono ?_; rintro e w1 ⟨rfl, rfl⟩)
          | (go_at_call 20; refine (fresh_nil _ _).mono ?_; rintro e w1 ⟨rfl, rfl⟩))
        go_ret
        exact ⟨rfl, HB.out.trans (HB9.out.mono HB.out.size)⟩
  · have hlI : (L : Int) > 60 := by omega
    have HB0 := Lib.hid hb0
    clear hb0
    go_wp2_with fail
    refine (awake_any w0).mono ?_
    rintro e w1 ⟨rfl, hb1⟩
    have HB1 := Lib.hid hb1
    clear hb1
    go_wp2
    go_ret
    exact ⟨rfl, HB0.out.trans (HB1.out.mono HB0.out.size)⟩
end Go.Proofs.Ytkjbicenhncpeaa
