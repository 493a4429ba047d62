/-
  The reference's pages.
-/
import Derived.Test.YtkjbicenhncpeaaPt
set_option linter.unusedVariables false
namespace Go.Proofs.Ytkjbicenhncpeaa
open Go.RowKit

/-- The reference's state: what each page is, and its bytes. -/
structure RG where
  is : List Int
  b : List (List Int)
structure RPp where
  gi : Nat
  gb : Nat
  vs : List Value
structure RefOf (w : World) (g : Nat) (r : RG) (q : RPp) : Prop where
  blk : Blk w g 54 #[.slice (some ⟨q.gi, 0, none⟩) r.is.length r.is.length, .slice (some ⟨q.gb, 0, none⟩) r.is.length r.is.length]
  row : Blk w q.gi 3 (I64 r.is).toArray
  rows : Blk w q.gb 37 q.vs.toArray
  vlen : q.vs.length = r.is.length
  blen : r.b.length = r.is.length
  at_ : ∀ (k : Nat) (v : Value) (l : List Int), q.vs[k]? = some v → r.b[k]? = some l → PageB w v l
def FootR (g : Nat) (q : RPp) (k : Nat) : Prop := k = g ∨ k = q.gi ∨ k = q.gb
/-- Block g is the reference's pages; R: its blocks. -/
def RefAt (w : World) (g : Nat) (r : RG) (R : Nat → Prop) : Prop := ∃ q, RefOf w g r q ∧ ∀ k, R k ↔ FootR g q k
section
variable {w w' : World} {g : Nat} {r : RG} {q : RPp} {R : Nat → Prop}
theorem RefOf.lt (h : RefOf w g r q) (k : Nat) (hk : FootR g q k) : k < w.heap.size := by
  rcases hk with rfl | rfl | rfl
  · exact heap_lt h.blk
  · exact heap_lt h.row
  · exact heap_lt h.rows
theorem RefOf.notByte (h : RefOf w g r q) (k : Nat) (hk : FootR g q k) (cur : Array Value) (mk : Nat × Nat) : w.heap[k]? ≠ some (.cells cur 5 mk) := by
  intro e
  rcases hk with rfl | rfl | rfl
  · exact ne_types e h.blk (by decide) rfl
  · exact ne_types e h.row (by decide) rfl
  · exact ne_types e h.rows (by decide) rfl
theorem RefOf.keep (h : RefOf w g r q) (hf : ∀ k, FootR g q k → w'.heap[k]? = w.heap[k]?) (hk : BK w w') (hs : w.heap.size ≤ w'.heap.size) : RefOf w' g r q where
  blk := (hf _ (.inl rfl)).trans h.blk
  row := (hf _ (.inr (.inl rfl))).trans h.row
  rows := (hf _ (.inr (.inr rfl))).trans h.rows
  vlen := h.vlen
  blen := h.blen
  at_ := fun k v l h1 h2 => (h.at_ k v l h1 h2).keep hk hs
theorem RefOf.below (h : RefOf w g r q) (hb : Below w.heap.size w w') : RefOf w' g r q := h.keep (fun k hk => hb.block k (h.lt k hk)) (BKA.of_below hb).b hb.size
theorem RefAt.below (h : RefAt w g r R) (hb : Below w.heap.size w w') : RefAt w' g r R := by
  obtain ⟨q, h1, h2⟩ := h
  exact ⟨q, h1.below hb, h2⟩
theorem RefAt.apart (h : RefAt w g r R) {S : Nat → Prop} (hc : Chg w w' S) (hd : ∀ k, S k → ¬ R k) (hb : ∀ k cur mk, S k → w.heap[k]? ≠ some (Obj.cells cur 5 mk)) : RefAt w' g r R := by
  obtain ⟨q, h1, h2⟩ := h
  exact ⟨q, h1.keep (fun k hk => hc.block k (h1.lt k hk) fun hs => hd k hs ((h2 k).2 hk)) (bk_of_chg hc hb) hc.size, h2⟩
theorem RefAt.lt (h : RefAt w g r R) (k : Nat) (hk : R k) : k < w.heap.size := by
  obtain ⟨q, h1, h2⟩ := h
  exact h1.lt k ((h2 k).1 hk)
theorem RefAt.notByte (h : RefAt w g r R) (k : Nat) (cur : Array Value) (mk : Nat × Nat) (hk : R k) : w.heap[k]? ≠ some (.cells cur 5 mk) := by
  obtain ⟨q, h1, h2⟩ := h
  exact h1.notByte k ((h2 k).1 hk) cur mk
theorem RefOf.set_ (h : RefOf w g r q) {k : Nat} (hk : k = q.gi ∨ k = q.gb) (i : Nat) (u : Value) : (w.setCell ⟨k, i, none⟩ u).heap[g]? = w.heap[g]? ∧ BK w (w.setCell ⟨k, i, none⟩ u) ∧ w.heap.size ≤ (w.setCell ⟨k, i, none⟩ u).heap.size := by
  refine ⟨Below.heap_setCell w ⟨k, i, none⟩ u g ?_, fun j cur mk hj => Below.heap_setCell w ⟨k, i, none⟩ u j ?_, by simp [World.setCell]⟩
  · rcases hk with rfl | rfl
    · exact ne_types h.blk h.row (by decide)
    · exact ne_types h.blk h.rows (by decide)
  · rcases hk with rfl | rfl
    · exact ne_types hj h.row (by decide)
    · exact ne_types hj h.rows (by decide)
theorem RefOf.setIs (h : RefOf w g r q) (i : Nat) (x : Int) : RefOf (w.setCell ⟨q.gi, i, none⟩ (.int .i64 x)) g { r with is := r.is.set i x } q := by
  obtain ⟨h1, h2, h3⟩ := h.set_ (.inl rfl) i (.int .i64 x)
  refine ⟨?_, ?_, ?_, by simp only [List.length_set]; exact h.vlen, by simp only [List.length_set]; exact h.blen, fun k v l ha hb => (h.at_ k v l ha hb).keep h2 h3⟩
  · have := h1.trans h.blk
    unfold Blk at this ⊢
    simp only [List.length_set]
    exact this
  · have := h.row.set_ i (.int .i64 x)
    unfold Blk at this ⊢
    rw [this]
    simp [List.setIfInBounds_toArray, List.map_set]
  · exact (Below.heap_setCell w ⟨q.gi, i, none⟩ _ q.gb (ne_types h.rows h.row (by decide))).trans h.rows
theorem RefOf.setB (h : RefOf w g r q) (i : Nat) {v : Value} {l : List Int} (hp : PageB w v l) : RefOf (w.setCell ⟨q.gb, i, none⟩ v) g { r with b := r.b.set i l } { q with vs := q.vs.set i v } := by
  obtain ⟨h1, h2, h3⟩ := h.set_ (.inr rfl) i v
  refine ⟨h1.trans h.blk, (Below.heap_setCell w ⟨q.gb, i, none⟩ _ q.gi (ne_types h.row h.rows (by decide))).trans h.row, ?_, by simp only [List.length_set]; exact h.vlen, by simp only [List.length_set]; exact h.blen, fun k u m ha hb => ?_⟩
  · have := h.rows.set_ i v
    unfold Blk at this ⊢
    rw [this]
    simp [List.setIfInBounds_toArray]
  · have ha : (q.vs.set i v)[k]? = some u := ha
    have hb : (r.b.set i l)[k]? = some m := hb
    rw [List.getElem?_set] at ha hb
    by_cases e : i = k
    · rw [if_pos e] at ha hb
      split at ha
      · split at hb
        · injection ha with ha
          injection hb with hb
          subst ha hb
          exact hp.keep h2 h3
        · cases hb
      · cases ha
    · rw [if_neg e] at ha hb
      exact (h.at_ k u m ha hb).keep h2 h3
theorem RefOf.stateAt (h : RefOf w g r q) {k : Nat} (hk : k < r.is.length) : w.cell? ⟨q.gi, k, none⟩ = some (.int .i64 r.is[k]) := by
  rw [h.row.cell k]
  simp [hk]
end
/-- The reference did something: its state is r'. -/
def OnR (g : Nat) (w : World) (R : Nat → Prop) (r' : RG) (w' : World) : Prop := RefAt w' g r' R ∧ Chg w w' R

set_option maxHeartbeats 1000000 in
theorem ris_any (g : Nat) (r : RG) (q : RPp) (n : Int) (w : World) (h : RefOf w g r q) :
    Calls Try.prog 47 #[.pointer (some ⟨g, 0, none⟩), .int .i64 n] w fun e w' => e = .returned (.int .i64 (isOf r.is n)) ∧ w = w' := by
  have c3 : w.cell? ⟨g, 0, none⟩ = some (.slice (some ⟨q.gi, 0, none⟩) r.is.length r.is.length) := h.blk.cell 0
  by_cases h0 : n < 0
  · have HE : Hid (isOf r.is n = 0) := Lib.hid (by unfold isOf; rw [if_pos (.inl h0)])
    clear h
    go_enter Try.func47, Try.ntmps47
    go_wp2
    go_ret
    exact ⟨by rw [HE.out] <;> rfl, rfl⟩
  by_cases h1 : (r.is.length : Int) ≤ n
  · have HE : Hid (isOf r.is n = 0) := Lib.hid (by unfold isOf; rw [if_pos (.inr h1)])
    clear h
    go_enter Try.func47, Try.ntmps47
    go_wp2
    go_ret
    exact ⟨by rw [HE.out] <;> rfl, rfl⟩
  · obtain ⟨k, rfl⟩ : ∃ k : Nat, n = k := ⟨n.toNat, by omega⟩
    have hk : k < r.is.length := by omega
    have hc := h.stateAt hk
    have HE : Hid (isOf r.is k = r.is[k]) := Lib.hid (isOf_lt hk)
    obtain ⟨x, hx⟩ : ∃ x, r.is[k] = x := ⟨_, rfl⟩
    rw [hx] at hc HE
    have hkI : (k : Int) < (r.is.length : Int) := by omega
    have hk0 : (0 : Int) ≤ (k : Int) := by omega
    clear h hx
    go_enter Try.func47, Try.ntmps47
    go_wp2
    go_ret
    exact ⟨by rw [HE.out] <;> rfl, rfl⟩

/-- What the reference's Alloc answers. -/
def RAllocRes (g : Nat) (r : RG) (w : World) (R : Nat → Prop) (e : Ending) (w' : World) : Prop :=
  (idxI r.is 0 < 0 ∧ e = .returned (.tuple #[.int .i64 0, .int .i64 6]) ∧ w = w') ∨
  (∃ i : Nat, idxI r.is 0 = i ∧ e = .returned (.tuple #[.int .i64 i, .int .i64 0]) ∧ OnR g w R ⟨r.is.set i 2, r.b.set i zeroPage⟩ w')
theorem idxI_stop {l : List Int} {x : Int} {i : Nat} (h : ∀ j, j < i → l[j]? ≠ some x) (hi : l.length ≤ i) : idxI l x < 0 := by
  rw [idxI_none fun q hq => ?_]
  · decide
  · rcases Nat.lt_or_ge q i with hj | hj
    · exact h q hj hq
    · rw [List.getElem?_eq_none (by omega)] at hq; cases hq
set_option maxHeartbeats 4000000 in
theorem ralloc_any (g : Nat) (r : RG) (R : Nat → Prop) (w : World) (h : RefAt w g r R) (hl : r.is.length ≤ 100000) :
    Calls Try.prog 35 #[.pointer (some ⟨g, 0, none⟩)] w (RAllocRes g r w R) := by
  obtain ⟨q, h, hR⟩ := h
  obtain ⟨N, hN⟩ : ∃ N : Nat, N = 1024 := ⟨_, rfl⟩
  have hmk : ∀ w, (Instr.makeSlice 37 (.int .i64 1024) (.int .i64 1024)).run Try.prog w = .ok (.slice (some ⟨w.heap.size, 0, none⟩) N N) (w.alloc (.cells (U8 zeroPage).toArray 5)) := by rw [hN]; exact makePage
  obtain ⟨L, hL⟩ : ∃ L, r.is.length = L := ⟨_, rfl⟩
  have c0 : w.cell? ⟨g, 0, none⟩ = some (.slice (some ⟨q.gi, 0, none⟩) L L) := by rw [← hL]; exact h.blk.cell 0
  have c1 : w.cell? ⟨g, 1, none⟩ = some (.slice (some ⟨q.gb, 0, none⟩) L L) := by rw [← hL]; exact h.blk.cell 1
  have HL := Lib.hid hL
  have H := Lib.hid h
  have HR := Lib.hid hR
  have HN := Lib.hid hN
  rw [hL] at hl
  clear hL h hR hN
  go_enter Try.func35, Try.ntmps35
  go_wp2
  go_loopw [4] (fun vi wr => ∃ k : Nat, vi = .int .i64 k ∧ k ≤ L ∧ Hid (∀ j, j < k → r.is[j]? ≠ some 0) ∧ w = wr) (fun vi _ => L - (RowKit.intOf vi).toNat)
  case atStart => exact ⟨0, rfl, Nat.zero_le _, Lib.hid fun j hj => absurd hj (by omega), rfl⟩
  case round =>
    obtain ⟨k, rfl, hk, HQ, rfl⟩ := hrel
    by_cases hlt : k < L
    · have hkI : (k : Int) < (L : Int) := by omega
      have hkl : k < r.is.length := by rw [HL.out]; exact hlt
      have ck := H.out.stateAt hkl
      obtain ⟨x, hx⟩ : ∃ x, r.is[k] = x := ⟨_, rfl⟩
      have hg : r.is[k]? = some x := by rw [List.getElem?_eq_getElem hkl, hx]
      rw [hx] at ck
      by_cases h0 : x = 0
      · subst h0
        have zk := H.out.row.free k
        have hset := H.out.setIs k 2
        have HIX : Hid (idxI r.is 0 = k) := Lib.hid (idxI_at hg HQ.out)
        have d1 : (w.setCell ⟨q.gi, k, none⟩ (.int .i64 2)).cell? ⟨g, 1, none⟩ = some (.slice (some ⟨q.gb, 0, none⟩) L L) := by
          have := hset.blk.cell 1
          simp only [List.length_set, HL.out] at this
          exact this
        obtain ⟨u, hu⟩ : ∃ u, q.vs[k]? = some u := ⟨_, List.getElem?_eq_getElem (by have := H.out.vlen; omega)⟩
        generalize hW : w.setCell ⟨q.gi, k, none⟩ (.int .i64 2) = w1 at *
        have hb1 := hset.rows
        have hb2 : Blk (w1.drew.alloc (.cells (U8 zeroPage).toArray 5)) q.gb 37 q.vs.toArray := by
          have : q.gb < w1.drew.heap.size := heap_lt hb1
          exact (Below.heap_alloc w1.drew _ _ this).trans hb1
        have e1 : w1.drew.cell? ⟨g, 1, none⟩ = some (.slice (some ⟨q.gb, 0, none⟩) L L) := d1
        have e2 : (w1.alloc (.cells (U8 zeroPage).toArray 5)).cell? ⟨g, 1, none⟩ = some (.slice (some ⟨q.gb, 0, none⟩) L L) := (World.cell?_alloc_lt w1 _ ⟨g, 1, none⟩ (World.block_lt_of_cell? w1 _ d1)).trans d1
        have e3 : (w1.alloc (.cells (U8 zeroPage).toArray 5)).cell? ⟨q.gb, k, none⟩ = some u := by
          have := hb2.cell k
          have hx : (w1.drew.alloc (.cells (U8 zeroPage).toArray 5)).cell? ⟨q.gb, k, none⟩ = some u := by rw [this]; simpa using hu
          exact hx
        have z3 : (w1.alloc (.cells (U8 zeroPage).toArray 5)).frozen? ⟨q.gb, k, none⟩ = false := by
          have := hb2.free k
          exact this
        have hsz : w1.heap.size = w.heap.size := by rw [← hW]; simp [World.setCell]
        have hpg : PageB (w1.alloc (.cells (U8 zeroPage).toArray 5)) (.slice (some ⟨w.heap.size, 0, none⟩) N N) zeroPage := by
          rw [HN.out, ← hsz]
          have hb : Blk (w1.alloc (.cells (U8 zeroPage).toArray 5)) w1.heap.size 5 (U8 zeroPage).toArray := Blk.new w1 _ _
          have ho := own_blk (base := 0) hb (Nat.zero_le _) (by rw [zeroPage_len]; decide)
          rw [zeroPage_len] at ho
          exact own_page ho zeroPage_len zeroPage_oct
        have hB2 : Below w1.heap.size w1 (w1.alloc (.cells (U8 zeroPage).toArray 5)) := (Below.refl _ _).alloc (Nat.le_refl _) _
        have hfin := ((hset.below hB2).setB k hpg).below (Below.refl _ _).drew
        have hch : Chg w ((w1.alloc (.cells (U8 zeroPage).toArray 5)).setCell ⟨q.gb, k, none⟩ (.slice (some ⟨w.heap.size, 0, none⟩) N N)).drew R := by
          rw [← hW]
          rw [← hW] at hB2
          exact ((((Chg.setCell w ⟨q.gi, k, none⟩ (.int .i64 2)).mono fun j _ hj => (HR.out j).2 (.inr (.inl hj))).trans (Chg.of_below hB2 R) (fun j hj => .inl hj)).trans (Chg.setCell _ ⟨q.gb, k, none⟩ _) (fun j hj => .inl ((HR.out j).2 (.inr (.inr hj))))).trans (Chg.drew _ R) (fun j hj => .inl hj)
        have HF := Lib.hid hfin
        have HCH := Lib.hid hch
        have HX := Lib.hid hW
        clear hfin hch hset hb1 hb2 hpg hB2 hx hg hkl d1 hu hsz
        subst hW
        go_wp2
        go_region
        go_wp2
        go_ret2
        exact .inr ⟨k, HIX.out, rfl, ⟨⟨q.gi, q.gb, _⟩, HF.out, HR.out⟩, HCH.out⟩
      · have e0 : (x == 0) = false := by simpa using h0
        have HQ2 : Hid (∀ j, j < k + 1 → r.is[j]? ≠ some 0) := Lib.hid fun j hj => by
          by_cases e : j = k
          · rw [e, hg]; intro h; injection h with h; exact h0 h
          · exact HQ.out j (by omega)
        clear hx hg hkl HQ h0
        go_wp2
        go_roundw
        case rel => exact ⟨k + 1, by go_num, by omega, HQ2, trivial⟩
        case measure => simp [RowKit.intOf]; omega
    · have hkI : ¬ (k : Int) < (L : Int) := by omega
      have HX : Hid (idxI r.is 0 < 0) := Lib.hid (idxI_stop HQ.out (by rw [HL.out]; omega))
      clear HQ
      go_wp2
      go_ret2
      exact .inl ⟨HX.out, rfl, rfl⟩

/-- What the reference's Get answers. -/
def RGetRes (g : Nat) (r : RG) (n : Int) (w : World) (e : Ending) (w' : World) : Prop :=
  ((isOf r.is n ≠ 1 ∧ isOf r.is n ≠ 2) ∧ e = .returned (.tuple #[.slice none 0 0, .int .i64 1]) ∧ w = w') ∨
  ((isOf r.is n = 1 ∨ isOf r.is n = 2) ∧ w = w' ∧ ∃ v l, e = .returned (.tuple #[v, .int .i64 0]) ∧ r.b[n.toNat]? = some l ∧ PageB w v l)
set_option maxHeartbeats 4000000 in
theorem rget_any (g : Nat) (r : RG) (R : Nat → Prop) (n : Int) (w : World) (h : RefAt w g r R) :
    Calls Try.prog 37 #[.pointer (some ⟨g, 0, none⟩), .int .i64 n] w (RGetRes g r n w) := by
  obtain ⟨q, h, hR⟩ := h
  have HOF := Lib.hid (ris_any g r q n w h)
  by_cases h12 : isOf r.is n = 1 ∨ isOf r.is n = 2
  · obtain ⟨x, hx⟩ : ∃ x, isOf r.is n = x := ⟨_, rfl⟩
    have hin := isOf_in (is := r.is) (n := n) (by omega)
    obtain ⟨b0, b1, hk, _⟩ := hin
    obtain ⟨k, rfl⟩ : ∃ k : Nat, n = k := ⟨n.toNat, by omega⟩
    rw [Int.toNat_natCast] at hk
    obtain ⟨v, hv⟩ : ∃ v, q.vs[k]? = some v := ⟨_, List.getElem?_eq_getElem (by have := h.vlen; omega)⟩
    obtain ⟨l, hl⟩ : ∃ l, r.b[k]? = some l := ⟨_, List.getElem?_eq_getElem (by have := h.blen; omega)⟩
    have hp := h.at_ k v l hv hl
    obtain ⟨A, c, ev, _⟩ := hp.cells
    obtain ⟨L, hL⟩ : ∃ L, r.is.length = L := ⟨_, rfl⟩
    have c1 : w.cell? ⟨g, 1, none⟩ = some (.slice (some ⟨q.gb, 0, none⟩) L L) := by rw [← hL]; exact h.blk.cell 1
    have ck : w.cell? ⟨q.gb, k, none⟩ = some v := by rw [h.rows.cell k]; simpa using hv
    have hkL : (k : Int) < (L : Int) := by omega
    obtain ⟨N, hN⟩ : ∃ N, l.length = N := ⟨_, rfl⟩
    rw [ev, hN] at ck
    rw [ev, hN] at hp
    have HP := Lib.hid hp
    have HL := Lib.hid hl
    have HX := Lib.hid hx
    rw [hx] at HOF h12
    clear hx h hR hv hl hp ev hL hN hk b0 b1
    rcases h12 with rfl | rfl
    all_goals
      go_enter Try.func37, Try.ntmps37
      go_wp2_with (first | (go_at_call 47; refine HOF.out.mono ?_; rintro e w1 ⟨rfl, rfl⟩))
      go_ret2
      exact .inr ⟨by rw [HX.out]; first | exact .inl rfl | exact .inr rfl, rfl, _, l, rfl, by rw [Int.toNat_natCast]; exact HL.out, HP.out⟩
  · have e1 : (isOf r.is n != 1) = true := by simp; omega
    have e2 : (isOf r.is n != 2) = true := by simp; omega
    have HH : Hid (isOf r.is n ≠ 1 ∧ isOf r.is n ≠ 2) := Lib.hid ⟨fun e => h12 (.inl e), fun e => h12 (.inr e)⟩
    clear h12 h hR
    go_enter Try.func37, Try.ntmps37
    go_wp2_with (first | (go_at_call 47; refine HOF.out.mono ?_; rintro e w1 ⟨rfl, rfl⟩))
    go_ret2
    exact .inl ⟨HH.out, rfl, rfl⟩

/-- What the reference's Put answers. -/
def RPutRes (g : Nat) (r : RG) (n : Int) (b : List Int) (w : World) (R : Nat → Prop) (e : Ending) (w' : World) : Prop :=
  ((isOf r.is n ≠ 2 ∨ b.length ≠ 1024) ∧ e = .returned (.int .i64 1) ∧ w = w') ∨
  (isOf r.is n = 2 ∧ b.length = 1024 ∧ e = .returned (.int .i64 0) ∧ OnR g w R { r with b := r.b.set n.toNat b } w')
set_option maxHeartbeats 4000000 in
theorem rput_any (g : Nat) (r : RG) (R : Nat → Prop) (n : Int) (A : Option Addr) (b : List Int) (c : Nat) (w : World) (h : RefAt w g r R) (hcb : Cells w w.heap.size A (U8 b)) (hob : Oct b) (hbl : b.length ≤ 100000000) :
    Calls Try.prog 36 #[.pointer (some ⟨g, 0, none⟩), .int .i64 n, .slice A b.length c] w (RPutRes g r n b w R) := by
  obtain ⟨q, h, hR⟩ := h
  have HOF := Lib.hid (ris_any g r q n w h)
  obtain ⟨N, hN⟩ : ∃ N, b.length = N := ⟨_, rfl⟩
  rw [hN] at hbl ⊢
  by_cases h2 : isOf r.is n = 2
  · have HH2 := Lib.hid h2
    rw [h2] at HOF
    by_cases hl : N = 1024
    · have hne : ((N : Int) != 1024) = false := by simp [hl]
      have hin := isOf_in (is := r.is) (n := n) (by omega)
      obtain ⟨b0, b1, hk, _⟩ := hin
      obtain ⟨k, rfl⟩ : ∃ k : Nat, n = k := ⟨n.toNat, by omega⟩
      rw [Int.toNat_natCast] at hk
      obtain ⟨u, hu⟩ : ∃ u, q.vs[k]? = some u := ⟨_, List.getElem?_eq_getElem (by have := h.vlen; omega)⟩
      obtain ⟨L, hL⟩ : ∃ L, r.is.length = L := ⟨_, rfl⟩
      have hkL : (k : Int) < (L : Int) := by omega
      have hN0 : b.length ≤ 140737488355328 := by omega
      have H := Lib.hid h
      have HR := Lib.hid hR
      have HL := Lib.hid hL
      have HU := Lib.hid hu
      have HN := Lib.hid hN
      have HC := Lib.hid hcb
      have HL4 : Hid (b.length = 1024) := Lib.hid (by omega)
      have HN0 := Lib.hid hN0
      clear h2 h hR hL hu hN hcb hk b0 b1 hl hN0
      go_enter Try.func36, Try.ntmps36
      go_wp2_with (first
        | (go_at_call 47; refine HOF.out.mono ?_; rintro e w1 ⟨rfl, rfl⟩)
        | (at_builtin; refine app_any rfl (.tmp 17) (.tmp 18) rfl w.heap.size (.slice none 0 0) [] rfl (Own.nil _ _) w.heap.size A c b (by rw [HN.out]; rfl) HC.out (by simpa using HN0.out) (Nat.le_refl _) ?_; intro v7 w7 hown7 hg7; have hB7 : Below w.heap.size w w7 := hg7.below (Own.nil w w.heap.size) (Nat.le_refl _); have h7 := H.out.below hB7; have c1 : w7.cell? ⟨g, 1, none⟩ = some (.slice (some ⟨q.gb, 0, none⟩) L L) := (by rw [← HL.out]; exact h7.blk.cell 1); have ck : w7.cell? ⟨q.gb, k, none⟩ = some u := (by rw [h7.rows.cell k]; simpa using HU.out); have zk := h7.rows.free k; have hpb := own_page hown7 (by rw [List.nil_append]; exact HL4.out) (by rw [List.nil_append]; exact hob); obtain ⟨A7, c7, ev7, _⟩ := hpb.cells; have hset := h7.setB k hpb; obtain ⟨N7, hN7⟩ : ∃ N7, ([] ++ b).length = N7 := ⟨_, rfl⟩; rw [hN7] at ev7; subst ev7; rw [List.nil_append] at hset; have HS := Lib.hid hset; have HB7 := Lib.hid hB7; clear hset hpb hown7 h7 hB7 hg7 hN7))
      go_ret
      exact .inr ⟨HH2.out, HL4.out, rfl, ⟨⟨q.gi, q.gb, q.vs.set k (.slice A7 N7 c7)⟩, by rw [Int.toNat_natCast]; exact HS.out, HR.out⟩, (Chg.of_below HB7.out R).trans (Chg.setCell w7 ⟨q.gb, k, none⟩ _) (fun j hj => .inl ((HR.out j).2 (.inr (.inr hj))))⟩
    · have hne : ((N : Int) != 1024) = true := by simp; omega
      have HL : Hid (b.length ≠ 1024) := Lib.hid (fun e => hl (hN.symm.trans e))
      clear hl hN h hR h2 hcb
      go_enter Try.func36, Try.ntmps36
      go_wp2_with (first | (go_at_call 47; refine HOF.out.mono ?_; rintro e w1 ⟨rfl, rfl⟩))
      go_ret
      exact .inl ⟨.inr HL.out, rfl, rfl⟩
  · have hne : (isOf r.is n != 2) = true := by simpa using h2
    have HH2 := Lib.hid h2
    clear h2 hN h hR hcb
    go_enter Try.func36, Try.ntmps36
    go_wp2_with (first | (go_at_call 47; refine HOF.out.mono ?_; rintro e w1 ⟨rfl, rfl⟩))
    go_ret
    exact .inl ⟨.inl HH2.out, rfl, rfl⟩

/-- What the reference's Free answers. -/
def RFreeRes (g : Nat) (r : RG) (n : Int) (w : World) (R : Nat → Prop) (e : Ending) (w' : World) : Prop :=
  ((isOf r.is n ≠ 2 ∧ isOf r.is n ≠ 1) ∧ e = .returned (.int .i64 1) ∧ w = w') ∨
  ((isOf r.is n = 2 ∨ isOf r.is n = 1) ∧ e = .returned (.int .i64 0) ∧ OnR g w R { r with is := freeIs r.is n } w')
set_option maxHeartbeats 4000000 in
theorem rfree_any (g : Nat) (r : RG) (R : Nat → Prop) (n : Int) (w : World) (h : RefAt w g r R) :
    Calls Try.prog 39 #[.pointer (some ⟨g, 0, none⟩), .int .i64 n] w (RFreeRes g r n w R) := by
  obtain ⟨q, h, hR⟩ := h
  have HOF := Lib.hid (ris_any g r q n w h)
  have H := Lib.hid h
  have HR := Lib.hid hR
  obtain ⟨L, hL⟩ : ∃ L, r.is.length = L := ⟨_, rfl⟩
  have c0 : w.cell? ⟨g, 0, none⟩ = some (.slice (some ⟨q.gi, 0, none⟩) L L) := by rw [← hL]; exact h.blk.cell 0
  have HL := Lib.hid hL
  clear h hR hL
  by_cases h2 : isOf r.is n = 2
  · rw [h2] at HOF
    obtain ⟨b0, b1, hk, _⟩ := isOf_in (is := r.is) (n := n) (by rw [h2]; decide)
    obtain ⟨k, rfl⟩ : ∃ k : Nat, n = k := ⟨n.toNat, by omega⟩
    rw [Int.toNat_natCast] at hk
    have HH := Lib.hid h2
    have HIS : Hid (freeIs r.is k = r.is.set k 0) := Lib.hid (by unfold freeIs; rw [h2]; simp)
    have ck := H.out.stateAt hk
    obtain ⟨x, hx⟩ : ∃ x, r.is[k] = x := ⟨_, rfl⟩
    rw [hx] at ck
    have zk := H.out.row.free k
    have hlk : (k : Int) < (L : Int) := by have := HL.out; omega
    have HS := Lib.hid (H.out.setIs k 0)
    clear hx h2 hk b0 b1
    go_enter Try.func39, Try.ntmps39
    go_wp2_with (first | (go_at_call 47; refine HOF.out.mono ?_; rintro e w1 ⟨rfl, rfl⟩))
    go_ret
    exact .inr ⟨.inl HH.out, rfl, ⟨q, by rw [HIS.out]; exact HS.out, HR.out⟩, (Chg.setCell w ⟨q.gi, k, none⟩ _).mono fun j _ hj => (HR.out j).2 (.inr (.inl hj))⟩
  by_cases h1 : isOf r.is n = 1
  · rw [h1] at HOF
    obtain ⟨b0, b1, hk, _⟩ := isOf_in (is := r.is) (n := n) (by rw [h1]; decide)
    obtain ⟨k, rfl⟩ : ∃ k : Nat, n = k := ⟨n.toNat, by omega⟩
    rw [Int.toNat_natCast] at hk
    have HH := Lib.hid h1
    have HIS : Hid (freeIs r.is k = r.is.set k 3) := Lib.hid (by unfold freeIs; rw [h1]; simp)
    have ck := H.out.stateAt hk
    obtain ⟨x, hx⟩ : ∃ x, r.is[k] = x := ⟨_, rfl⟩
    rw [hx] at ck
    have zk := H.out.row.free k
    have hlk : (k : Int) < (L : Int) := by have := HL.out; omega
    have HS := Lib.hid (H.out.setIs k 3)
    clear hx h1 h2 hk b0 b1
    go_enter Try.func39, Try.ntmps39
    go_wp2_with (first | (go_at_call 47; refine HOF.out.mono ?_; rintro e w1 ⟨rfl, rfl⟩))
    go_ret
    exact .inr ⟨.inr HH.out, rfl, ⟨q, by rw [HIS.out]; exact HS.out, HR.out⟩, (Chg.setCell w ⟨q.gi, k, none⟩ _).mono fun j _ hj => (HR.out j).2 (.inr (.inl hj))⟩
  · have e2 : (isOf r.is n == 2) = false := by simpa using h2
    have e1 : (isOf r.is n == 1) = false := by simpa using h1
    have HH := Lib.hid (And.intro h2 h1)
    clear h2 h1
    go_enter Try.func39, Try.ntmps39
    go_wp2_with (first | (go_at_call 47; refine HOF.out.mono ?_; rintro e w1 ⟨rfl, rfl⟩))
    go_ret
    exact .inl ⟨HH.out, rfl, rfl⟩

set_option maxHeartbeats 4000000 in
theorem rsettle_any (g : Nat) (r : RG) (R : Nat → Prop) (w : World) (h : RefAt w g r R) (hl : r.is.length ≤ 100000) :
    Calls Try.prog 41 #[.pointer (some ⟨g, 0, none⟩)] w fun e w' => e = .returned (.tuple #[]) ∧ OnR g w R { r with is := settleL r.is } w' := by
  obtain ⟨q, h, hR⟩ := h
  obtain ⟨N, hN⟩ : ∃ N, r.is.length = N := ⟨_, rfl⟩
  rw [hN] at hl
  have HN := Lib.hid hN
  have H := Lib.hid h
  have HR := Lib.hid hR
  clear h hR hN
  go_enter Try.func41, Try.ntmps41
  go_wp2
  go_loopw [2] (fun vi wr => ∃ k : Nat, vi = .int .i64 k ∧ k ≤ N ∧ RefOf wr g { r with is := settleK r.is k } q ∧ Chg w wr R) (fun vi _ => N - (RowKit.intOf vi).toNat)
  case atStart => exact ⟨0, rfl, Nat.zero_le _, by
    have : settleK r.is 0 = r.is := by simp [settleK]
    rw [this]; exact H.out, Chg.refl _ _⟩
  case round =>
    obtain ⟨k, rfl, hk, hC1, hch⟩ := hrel
    have d3 : wr.cell? ⟨g, 0, none⟩ = some (.slice (some ⟨q.gi, 0, none⟩) N N) := by
      have := hC1.blk.cell 0
      simp only [settleK_len, HN.out] at this
      exact this
    by_cases hlt : k < N
    · have hkI : (k : Int) < (N : Int) := by omega
      have hkl : k < r.is.length := by rw [HN.out]; exact hlt
      obtain ⟨x, hx⟩ : ∃ x, r.is[k] = x := ⟨_, rfl⟩
      have ck : wr.cell? ⟨q.gi, k, none⟩ = some (.int .i64 x) := by
        rw [hC1.row.cell k]
        have := settleK_at hkl
        rw [List.getElem?_eq_getElem hkl, hx] at this
        simp [this]
      have zk := hC1.row.free k
      have HCH := Lib.hid hch
      clear hch
      by_cases h2 : x = 2
      · subst h2
        have hs := hC1.setIs k 1
        have he : (settleK r.is k).set k 1 = settleK r.is (k + 1) := by rw [← settleK_set hkl, hx]; rfl
        simp only [he] at hs
        have HS := Lib.hid hs
        clear hs he hC1 hx hkl
        go_wp2
        go_roundw
        case rel => exact ⟨k + 1, by go_num, by omega, HS.out, HCH.out.trans (Chg.setCell wr ⟨q.gi, k, none⟩ _) (fun j hj => .inl ((HR.out j).2 (.inr (.inl hj))))⟩
        case measure => simp [RowKit.intOf]; omega
      · have e2 : (x == 2) = false := by simpa using h2
        by_cases h3 : x = 3
        · subst h3
          have hs := hC1.setIs k 0
          have he : (settleK r.is k).set k 0 = settleK r.is (k + 1) := by rw [← settleK_set hkl, hx]; rfl
          simp only [he] at hs
          have HS := Lib.hid hs
          clear hs he hC1 hx hkl
          go_wp2
          go_roundw
          case rel => exact ⟨k + 1, by go_num, by omega, HS.out, HCH.out.trans (Chg.setCell wr ⟨q.gi, k, none⟩ _) (fun j hj => .inl ((HR.out j).2 (.inr (.inl hj))))⟩
          case measure => simp [RowKit.intOf]; omega
        · have e3 : (x == 3) = false := by simpa using h3
          have he : settleK r.is k = settleK r.is (k + 1) := settleK_next hkl (by rw [hx]; unfold settleI; rw [if_neg h2, if_neg h3])
          rw [he] at hC1
          have HS := Lib.hid hC1
          clear he hC1 hx hkl h2 h3
          go_wp2
          go_roundw
          case rel => exact ⟨k + 1, by go_num, by omega, HS.out, HCH.out⟩
          case measure => simp [RowKit.intOf]; omega
    · have hkI : ¬ (k : Int) < (N : Int) := by omega
      have HC1 := Lib.hid hC1
      have HCH := Lib.hid hch
      clear hC1 hch
      go_wp2
      go_end0
      have e : k = N := by omega
      have e2 : settleK r.is k = settleL r.is := by
        unfold settleK settleL
        rw [List.take_of_length_le (by rw [HN.out, e]; exact Nat.le_refl _), List.drop_eq_nil_of_le (by rw [HN.out, e]; exact Nat.le_refl _), List.append_nil]
      have := HC1.out
      rw [e2] at this
      exact ⟨rfl, ⟨q, this, HR.out⟩, HCH.out⟩

set_option maxHeartbeats 4000000 in
theorem rcount_any (g : Nat) (r : RG) (R : Nat → Prop) (w : World) (h : RefAt w g r R) (hl : r.is.length ≤ 100000) :
    Calls Try.prog 23 #[.pointer (some ⟨g, 0, none⟩), .int .i64 0] w fun e w' => e = .returned (.int .i64 (room r.is)) ∧ w = w' := by
  obtain ⟨q, h, hR⟩ := h
  obtain ⟨N, hN⟩ : ∃ N, r.is.length = N := ⟨_, rfl⟩
  have c0 : w.cell? ⟨g, 0, none⟩ = some (.slice (some ⟨q.gi, 0, none⟩) N N) := by rw [← hN]; exact h.blk.cell 0
  rw [hN] at hl
  have HN := Lib.hid hN
  have HC := Lib.hid h
  clear h hR hN
  go_enter Try.func23, Try.ntmps23
  go_wp2
  go_loopw [5, 6] (fun vn vi wr => ∃ k : Nat, vi = .int .i64 k ∧ k ≤ N ∧ vn = .int .i64 (roomK r.is k) ∧ w = wr) (fun _ vi _ => N - (RowKit.intOf vi).toNat)
  case atStart => exact ⟨0, rfl, Nat.zero_le _, by simp [roomK], rfl⟩
  case round =>
    obtain ⟨k, rfl, hk, rfl, rfl⟩ := hrel
    by_cases hlt : k < N
    · have hkI : (k : Int) < (N : Int) := by omega
      have hkl : k < r.is.length := by rw [HN.out]; exact hlt
      have ck := HC.out.stateAt hkl
      have hnx := roomK_next hkl
      obtain ⟨x, hx⟩ : ∃ x, r.is[k] = x := ⟨_, rfl⟩
      rw [hx] at ck hnx
      have hle := roomK_le r.is k
      obtain ⟨R, hR⟩ : ∃ R, roomK r.is k = R := ⟨_, rfl⟩
      rw [hR] at hnx hle ⊢
      clear hx hkl hR
      by_cases h0 : x = 0
      · subst h0
        rw [if_pos rfl] at hnx
        have HX := Lib.hid hnx
        clear hnx
        go_wp2
        go_roundw
        case rel => exact ⟨k + 1, by go_num, by omega, by rw [HX.out]; go_num, trivial⟩
        case measure => simp [RowKit.intOf]; omega
      · have e0 : (x == 0) = false := by simpa using h0
        have HX : Hid (roomK r.is (k + 1) = R) := Lib.hid (by rw [hnx, if_neg h0]; rfl)
        clear hnx h0
        go_wp2
        go_roundw
        case rel => exact ⟨k + 1, by go_num, by omega, by rw [HX.out], trivial⟩
        case measure => simp [RowKit.intOf]; omega
    · have hkI : ¬ (k : Int) < (N : Int) := by omega
      have e : k = N := by omega
      have HX : Hid (roomK r.is k = room r.is) := Lib.hid (by
        unfold roomK room
        rw [List.take_of_length_le (by rw [HN.out, e]; exact Nat.le_refl _)])
      clear e
      go_wp2
      go_ret
      exact ⟨by rw [HX.out]; rfl, rfl⟩

set_option maxHeartbeats 4000000 in
theorem rused_any (g : Nat) (r : RG) (R : Nat → Prop) (w : World) (h : RefAt w g r R) (hl : r.is.length ≤ 100000) :
    Calls Try.prog 25 #[.pointer (some ⟨g, 0, none⟩)] w fun e w' => ∃ v, e = .returned v ∧ Nums w' w.heap.size v (usedL r.is) ∧ Below w.heap.size w w' := by
  obtain ⟨q, h, hR⟩ := h
  obtain ⟨N, hN⟩ : ∃ N, r.is.length = N := ⟨_, rfl⟩
  rw [hN] at hl
  have HN := Lib.hid hN
  have HC := Lib.hid h
  clear h hR hN
  go_enter Try.func25, Try.ntmps25
  go_wp2
  go_loopw [3, 4] (fun vl vi wr => ∃ k : Nat, vi = .int .i64 k ∧ k ≤ N ∧ Nums wr w.heap.size vl (usedK r.is k) ∧ Below w.heap.size w wr) (fun _ vi _ => N - (RowKit.intOf vi).toNat)
  case atStart => exact ⟨0, rfl, Nat.zero_le _, ⟨by simp [usedK], .inl ⟨rfl, rfl⟩⟩, Below.refl _ _⟩
  case round =>
    obtain ⟨k, rfl, hk, hown, hB⟩ := hrel
    have c0 : wr.cell? ⟨g, 0, none⟩ = some (.slice (some ⟨q.gi, 0, none⟩) N N) := by rw [← HN.out]; exact (HC.out.below hB).blk.cell 0
    by_cases hlt : k < N
    · have hkI : (k : Int) < (N : Int) := by omega
      have hkl : k < r.is.length := by rw [HN.out]; exact hlt
      have ck := (HC.out.below hB).stateAt hkl
      obtain ⟨x, hx⟩ : ∃ x, r.is[k] = x := ⟨_, rfl⟩
      have hg : r.is.getD k 0 = x := by rw [List.getD_eq_getElem?_getD, List.getElem?_eq_getElem hkl, ← hx]; rfl
      have hle := usedK_le r.is k
      obtain ⟨Al, cl, hvl, _⟩ := ownsRow_shape hown
      obtain ⟨M, hM⟩ : ∃ M, (usedK r.is k).length = M := ⟨_, rfl⟩
      rw [hM] at hvl hle
      subst hvl
      rw [hx] at ck
      have HG := Lib.hid hg
      have HM := Lib.hid hM
      clear hx hkl hg hM
      have hsB := hB.size
      by_cases h12 : x = 1 ∨ x = 2
      · have HK : Hid (usedK r.is (k + 1) = usedK r.is k ++ [(k : Int)]) := Lib.hid (by rw [usedK, HG.out, if_pos h12])
        have fin : ∀ A2 c2 w2, w2.ownsRow w.heap.size 3 1 (.slice A2 (M + 1) c2) (M + 1) (I64 (usedK r.is k) ++ [.int .i64 k]) → Nums w2 w.heap.size (.slice A2 (M + 1) c2) (usedK r.is (k + 1)) := fun A2 c2 w2 hr => by
          rw [HK.out]
          unfold Nums
          rw [List.length_append, HM.out, show I64 (usedK r.is k ++ [(k : Int)]) = I64 (usedK r.is k) ++ [.int .i64 k] from by simp [I64]]
          exact hr
        have hown' : wr.ownsRow w.heap.size 3 1 (.slice Al M cl) M (I64 (usedK r.is k)) := by have := hown; unfold Nums at this; rw [HM.out] at this; exact this
        have HFIN := Lib.hid fin
        have HOWN := Lib.hid hown'
        clear fin hown hown'
        rcases h12 with rfl | rfl
        all_goals
          go_wp2_with (first | (at_builtin; refine appG_anyS Try.underlying30 info_int rfl (by decide) rfl (.tmp 32) (.tmp 34) rfl w.heap.size (.slice Al M cl) M (I64 (usedK r.is k)) rfl (HOWN.out.alloc _) _ _ 1 1 [.int .i64 k] rfl (cells_blk wr _ _) (by simp) (by intro u hu; simp at hu; subst hu; rfl) (by unfold maxLen; omega) (by omega) (by simp; omega) ?_; intro A6 c6 w6 hrow6 hg6))
          have hB6 : Below w.heap.size w w6 := (hB.alloc hsB (.cells #[.int .i64 k] 3)).grown hg6.by_ (by simp; omega) (fun b hb => by
            rcases (HOWN.out.alloc (.cells #[.int .i64 k] 3)).2 with ⟨e, _⟩ | ⟨b', _, _, e, hbb, _⟩
            · rw [e] at hb; cases hb
            · rw [e] at hb; injection hb with hb; rw [← hb]; exact hbb)
          go_roundw
          case rel => exact ⟨k + 1, by go_num, by omega, HFIN.out _ _ _ hrow6, hB6⟩
          case measure => simp [RowKit.intOf]; omega
      · have HK : Hid (usedK r.is (k + 1) = usedK r.is k) := Lib.hid (by rw [usedK, HG.out, if_neg h12])
        have e1 : (x == 1) = false := by simp; omega
        have e2 : (x == 2) = false := by simp; omega
        have HOWN := Lib.hid hown
        clear h12 hown
        go_wp2
        go_roundw
        case rel => exact ⟨k + 1, by go_num, by omega, by rw [HK.out]; exact HOWN.out, hB⟩
        case measure => simp [RowKit.intOf]; omega
    · have hkI : ¬ (k : Int) < (N : Int) := by omega
      have e : k = N := by omega
      have HX : Hid (usedK r.is k = usedL r.is) := Lib.hid (by unfold usedL; rw [HN.out, e])
      have HOWN := Lib.hid hown
      clear e hown
      go_wp2
      go_ret
      exact ⟨_, rfl, by rw [← HX.out]; exact HOWN.out, hB⟩

set_option maxHeartbeats 4000000 in
theorem ints_same (A B : Option Addr) (l : List Int) (c d : Nat) (w : World) (hA : Cells w w.heap.size A (I64 l)) (hBc : Cells w w.heap.size B (I64 l)) (hl : l.length ≤ 1000000) :
    Calls Try.prog 24 #[.slice A l.length c, .slice B l.length d] w fun e w' => e = .returned (.bool true) ∧ Below w.heap.size w w' := by
  obtain ⟨N, hN⟩ : ∃ N, l.length = N := ⟨_, rfl⟩
  rw [hN] at hl ⊢
  have HN := Lib.hid hN
  have HA := Lib.hid hA
  have HB := Lib.hid hBc
  have hne : ((N : Int) != (N : Int)) = false := by simp
  clear hN hA hBc
  go_enter Try.func24, Try.ntmps24
  go_wp2
  go_loopw [5] (fun vi wr => ∃ k : Nat, vi = .int .i64 k ∧ k ≤ N ∧ Below w.heap.size w wr) (fun vi _ => N - (RowKit.intOf vi).toNat)
  case atStart => exact ⟨0, rfl, Nat.zero_le _, Below.refl _ _⟩
  case round =>
    obtain ⟨k, rfl, hk, hB⟩ := hrel
    by_cases hlt : k < N
    · have hkI : (k : Int) < (N : Int) := by omega
      have hkl : k < l.length := by rw [HN.out]; exact hlt
      obtain ⟨x, hx⟩ : ∃ x, l[k]? = some x := ⟨_, List.getElem?_eq_getElem hkl⟩
      have hnil : I64 l ≠ [] := by intro e; have := congrArg List.length e; simp at this; rw [this] at hkl; simp at hkl
      obtain ⟨b1, o1, rfl, _, hc1⟩ := (HA.out.below hB).form hnil
      obtain ⟨b2, o2, rfl, _, hc2⟩ := (HB.out.below hB).form hnil
      have y1 : wr.drew.cell? ⟨b1, o1 + k, none⟩ = some (.int .i64 x) := hc1 k _ (by rw [List.getElem?_map, hx]; rfl)
      have y2 : wr.drew.cell? ⟨b2, o2 + k, none⟩ = some (.int .i64 x) := hc2 k _ (by rw [List.getElem?_map, hx]; rfl)
      have hxx : (x != x) = false := by simp
      clear hx hkl hc1 hc2 hnil
      go_wp2
      go_region
      go_wp2
      go_roundw
      case rel => exact ⟨k + 1, by go_num, by omega, hB.drew⟩
      case measure => simp [RowKit.intOf]; omega
    · have hkI : ¬ (k : Int) < (N : Int) := by omega
      go_wp2
      go_ret
      exact ⟨rfl, hB⟩
end Go.Proofs.Ytkjbicenhncpeaa
