/-
  Worlds in which only a disk's counter of reads has changed; sectors that are kept in rows.
-/
import Derived.Test.YtcgnfkiimnpdcaaJf
import Derived.Test.YtcgnfkiimnpdcaaJd
set_option linter.unusedVariables false
namespace Go.Proofs.Ytcgnfkiimnpdcaa
open Go.RowKit

/-- Of what was there in w only the counter of reads of the disk g has changed. -/
def Lo (w : World) (g : Nat) (wr : World) : Prop := ∃ x : Int, Below w.heap.size (w.setCell ⟨g, 6, none⟩ (.int .i64 x)) wr
theorem set_size (w : World) (p : Addr) (u : Value) : (w.setCell p u).heap.size = w.heap.size := by simp [World.setCell]
theorem DiskOf.reads {w : World} {g : Nat} {s : DS} {p : DP} (h : DiskOf w g s p) (x : Int) : DiskOf (w.setCell ⟨g, 6, none⟩ (.int .i64 x)) g { s with a0 := x } p := h.set_ 6 _ rfl rfl rfl rfl
theorem Lo.size {w wr : World} {g : Nat} (h : Lo w g wr) : w.heap.size ≤ wr.heap.size := by
  obtain ⟨x, h⟩ := h
  have := h.size
  rwa [set_size] at this
theorem Lo.far {w wr : World} {g : Nat} (h : Lo w g wr) {k : Nat} (hk : k < w.heap.size) (hg : k ≠ g) : wr.heap[k]? = w.heap[k]? := by
  obtain ⟨x, h⟩ := h
  exact (h.block k hk).trans (Below.heap_setCell w ⟨g, 6, none⟩ _ k hg)
theorem Lo.trans {w wr w' : World} {g : Nat} (h : Lo w g wr) (k : Below w.heap.size wr w') : Lo w g w' := by
  obtain ⟨x, h⟩ := h
  exact ⟨x, h.trans k⟩
theorem Lo.below {w wr : World} {g B : Nat} (h : Lo w g wr) (hg : B ≤ g) (hB : B ≤ w.heap.size) : Below B w wr := by
  obtain ⟨x, h⟩ := h
  exact ⟨h.os, h.tape, h.output, by have := h.size; rwa [set_size] at this, fun k hk => (h.block k (by omega)).trans (Below.heap_setCell w ⟨g, 6, none⟩ _ k (fun e => by have e : k = g := e; omega))⟩
theorem Lo.of {w w' : World} {g : Nat} {s : DS} {x : Int} {p : DP} (h : DiskOf w g s p) (h' : DiskOf w' g { s with a0 := x } p) (os : w'.os = w.os) (tape : w'.tape = w.tape) (out : w'.output = w.output) (hs : w.heap.size ≤ w'.heap.size) (hb : ∀ k, k < w.heap.size → k ≠ g → w'.heap[k]? = w.heap[k]?) : Lo w g w' := by
  refine ⟨x, os, tape, out, by rw [set_size]; exact hs, fun k hk => ?_⟩
  by_cases e : k = g
  · subst e
    exact h'.blk.trans (h.reads x).blk.symm
  · exact (hb k hk e).trans (Below.heap_setCell w ⟨g, 6, none⟩ _ k e).symm
section
variable {B : Nat} {w : World} {L : List (Nat × DS)} (h : Many B w L) (hB : B ≤ w.heap.size) {i g : Nat} {s : DS} (hi : L[i]? = some (g, s))
include h hi
theorem Many.disk : ∃ p, DiskOf w g s p ∧ B ≤ g := by
  obtain ⟨F, h1, _⟩ := h
  obtain ⟨⟨p, hp, hF⟩, h2⟩ := h1 i g s hi
  exact ⟨p, hp, h2 g ((hF g).2 (.inl rfl))⟩
theorem Lo.refl : Lo w g w := by
  obtain ⟨p, hp, _⟩ := h.disk hi
  exact Lo.of (x := s.a0) hp hp rfl rfl rfl (Nat.le_refl _) fun _ _ _ => rfl
include hB
theorem Lo.many {wr : World} (hlo : Lo w g wr) : ∃ x, Many B wr (L.set i (g, { s with a0 := x })) := by
  obtain ⟨x, hx⟩ := hlo
  obtain ⟨F, h1, h2⟩ := h
  obtain ⟨⟨p, hp, hF⟩, h3⟩ := h1 i g s hi
  have := (Many.act h1 h2 hB hi (OnD.one (s := s) hF (hp.reads x) (Chg.setCell w ⟨g, 6, none⟩ _))).1
  exact ⟨x, this.below (by rw [set_size]; exact hx)⟩
theorem Lo.low {wr : World} (hlo : Lo w g wr) : Below B w wr := by
  obtain ⟨p, hp, hg⟩ := h.disk hi
  exact hlo.below hg hB
omit hB in
theorem Lo.bka {wr : World} (hlo : Lo w g wr) : BKA w wr := fun k cur t mk ht hk => by
  obtain ⟨p, hp, hg⟩ := h.disk hi
  have hlt : k < w.heap.size := by
    rcases Nat.lt_or_ge k w.heap.size with h | h
    · exact h
    · rw [Array.getElem?_eq_none h] at hk; cases hk
  refine hlo.far hlt fun e => ?_
  subst e
  have := hp.blk.symm.trans hk
  injection this with this
  injection this with _ h2 _
  exact ht.1 h2.symm
omit hB in
theorem read_lo {wr : World} (hlo : Lo w g wr) (hd : s.down = false) (n : Int) (h0 : 0 ≤ n) (h1 : n < s.size) :
    Calls Try.prog 39 #[.pointer (some ⟨g, 0, none⟩), .int .i64 n] wr fun e w' => ∃ b N c, e = .returned (.tuple #[.slice (some ⟨b, 0, none⟩) N c, .int .i64 0]) ∧ 256 ≤ N ∧ N ≤ 256 ∧ N ≤ c ∧ c ≤ maxLen ∧ wr.heap.size ≤ b ∧ (∃ cur, w'.heap[b]? = some (.cells cur 5 (0, 0))) ∧ Cells w' w'.heap.size (some ⟨b, 0, none⟩) (U8 (rd s n)) ∧ Lo w g w' ∧ Chg wr w' (fun k => k = g) := by
  obtain ⟨p, hp, hg⟩ := h.disk hi
  have hlo' := hlo
  obtain ⟨x, hx⟩ := hlo
  have hr : DiskOf wr g { s with a0 := x } p := (hp.reads x).below (by rw [set_size]; exact hx)
  have hlen := many_len h hi n
  refine (read_any g { s with a0 := x } p n wr hr).mono ?_
  intro e w' hw
  unfold ReadD at hw
  rw [if_neg (by show ¬ s.down = true; rw [hd]; decide), if_neg (by show ¬ (n < 0 ∨ s.size ≤ n); omega)] at hw
  obtain ⟨v, rfl, hown, hdk, hc⟩ := hw
  have hown' : Own w' wr.heap.size v (rd s n) := hown
  rcases hown'.2 with ⟨_, hz⟩ | ⟨b, cap, cur, rfl, hb, hh, hn, hm, _⟩
  · omega
  · refine ⟨b, _, cap, rfl, by omega, by omega, hn, hm, hb, ⟨cur, hh⟩, hown'.cells, ?_, hc⟩
    have s1 := hc.size
    have s2 := hlo'.size
    exact Lo.of (x := wrap64 (x + 1)) hp hdk (hc.os.trans hx.os) (hc.tape.trans hx.tape) (hc.output.trans hx.output) (by omega) fun k hk e => (hc.block k (by omega) e).trans (hlo'.far hk e)
end

theorem row_chg {w w' : World} {base : Nat} {e : TypeId} {size n : Nat} {v : Value} {xs : List Value} {g : Nat} (h : w.ownsRow base e size v n xs) (hc : Chg w w' (fun k => k = g)) (hg : g < base) : w'.ownsRow base e size v n xs := by
  refine World.ownsRow.kept (row := some g) h ⟨hc.os, hc.tape, hc.output, hc.size, fun k hk hne => hc.block k hk fun e => hne (by rw [e])⟩ ?_
  rcases h.2 with ⟨rfl, _⟩ | ⟨b, cap, cur, rfl, hb, _⟩
  · exact .inl rfl
  · refine .inr fun e => ?_
    injection e with e
    have e : b = g := e
    omega
theorem row_type {w : World} {base : Nat} {e : TypeId} {size n b : Nat} {v : Value} {xs : List Value} {cur : Array Value} {t : TypeId} {mk : Nat × Nat} (h : w.ownsRow base e size v n xs) (hb : w.heap[b]? = some (.cells cur t mk)) (ht : t ≠ e) : some b ≠ v.ownBlock := by
  intro hk
  obtain ⟨c2, h2⟩ := row_block h hk.symm
  rw [hb] at h2
  injection h2 with h2
  injection h2 with _ h2
  exact ht h2
theorem row_grew {w w' : World} {base base' : Nat} {e e' : TypeId} {size n size' n' : Nat} {v u u' : Value} {xs ys : List Value} (h : w.ownsRow base e size v n xs) (hu : w.ownsRow base' e' size' u n' ys) (hg : Grew w u w' u') (ht : e ≠ e') : w'.ownsRow base e size v n xs := by
  refine World.ownsRow.kept h hg.by_ ?_
  cases ho : v.ownBlock with
  | none => exact .inl rfl
  | some b =>
    obtain ⟨cur, hb⟩ := row_block h ho
    exact .inr (row_type hu hb ht)

/-- The rows vs are the sectors from a place on, each in a row of bytes of its own. -/
def Secs (w : World) (base : Nat) (own : Option Nat) (R : Nat → List Int) (at_ : Nat) (vs : List Value) : Prop :=
  ∀ k v, vs[k]? = some v → ∃ b N c, v = .slice (some ⟨b, 0, none⟩) N c ∧ 256 ≤ N ∧ N ≤ 256 ∧ N ≤ c ∧ c ≤ maxLen ∧ base ≤ b ∧ some b ≠ own ∧ (∃ cur, w.heap[b]? = some (.cells cur 5 (0, 0))) ∧ Cells w w.heap.size (some ⟨b, 0, none⟩) (U8 (R (at_ + k)))
theorem blk_lt {w : World} {b : Nat} {o : Obj} (h : w.heap[b]? = some o) : b < w.heap.size := by
  rcases Nat.lt_or_ge b w.heap.size with h' | h'
  · exact h'
  · rw [Array.getElem?_eq_none h'] at h; cases h
theorem cells_same {w w' : World} {b off : Nat} {xs : List Value} (h : Cells w w.heap.size (some ⟨b, off, none⟩) xs) (hb : w'.heap[b]? = w.heap[b]?) : Cells w' w'.heap.size (some ⟨b, off, none⟩) xs := fun k u hu => by
  have hc := h.known hu
  have : w'.cell? ⟨b, off + k, none⟩ = some u := (World.cell?_of_block (a := ⟨b, off + k, none⟩) hb).trans hc
  exact ⟨b, off, rfl, World.block_lt_of_cell? w' _ this, this⟩
theorem Secs.keep {w w' : World} {base : Nat} {own own' : Option Nat} {R : Nat → List Int} {at_ : Nat} {vs : List Value} (h : Secs w base own R at_ vs) (hk : ∀ b cur, base ≤ b → some b ≠ own → w.heap[b]? = some (.cells cur 5 (0, 0)) → w'.heap[b]? = w.heap[b]? ∧ some b ≠ own') : Secs w' base own' R at_ vs := by
  intro k v hv
  obtain ⟨b, N, c, e, h1, h2, h3, h4, h5, h6, ⟨cur, h7⟩, h8⟩ := h k v hv
  obtain ⟨k1, k2⟩ := hk b cur h5 h6 h7
  exact ⟨b, N, c, e, h1, h2, h3, h4, h5, k2, ⟨cur, k1.trans h7⟩, cells_same h8 k1⟩
theorem Secs.ones {w : World} {base : Nat} {own : Option Nat} {R : Nat → List Int} {at_ : Nat} {vs : List Value} (h : Secs w base own R at_ vs) : ∀ u ∈ vs, u.oneCell' = true := fun u hu => by
  obtain ⟨k, hk, rfl⟩ := List.getElem_of_mem hu
  obtain ⟨b, N, c, e, _⟩ := h k _ (List.getElem?_eq_getElem hk)
  rw [e]; rfl
theorem Secs.snoc {w : World} {base : Nat} {own : Option Nat} {R : Nat → List Int} {at_ : Nat} {vs : List Value} {b N c : Nat} {cur : Array Value} (h : Secs w base own R at_ vs) (h1 : 256 ≤ N) (h2 : N ≤ 256) (h3 : N ≤ c) (h4 : c ≤ maxLen) (h5 : base ≤ b) (h6 : some b ≠ own) (h7 : w.heap[b]? = some (.cells cur 5 (0, 0))) (h8 : Cells w w.heap.size (some ⟨b, 0, none⟩) (U8 (R (at_ + vs.length)))) : Secs w base own R at_ (vs ++ [.slice (some ⟨b, 0, none⟩) N c]) := by
  intro k v hv
  rcases Nat.lt_or_ge k vs.length with hlt | hge
  · rw [List.getElem?_append_left hlt] at hv
    exact h k v hv
  · rw [List.getElem?_append_right hge] at hv
    have hk : k - vs.length = 0 := by
      rcases Nat.eq_zero_or_pos (k - vs.length) with e | e
      · exact e
      · rw [List.getElem?_eq_none (by simp; omega)] at hv; cases hv
    have hk' : k = vs.length := by omega
    rw [hk] at hv
    injection hv with hv
    subst hk'
    exact ⟨b, N, c, hv.symm, h1, h2, h3, h4, h5, h6, ⟨cur, h7⟩, h8⟩

/-- k parts of a record are read. -/
structure RI (w : World) (g : Nat) (R : Nat → List Int) (at_ k : Nat) (vb va : Value) (wr : World) : Prop where
  lo : Lo w g wr
  own : Own wr w.heap.size vb (gather R at_ k)
  rows : ∃ vs, vs.length = k ∧ wr.ownsRow w.heap.size 27 1 va k vs ∧ Secs wr w.heap.size vb.ownBlock R at_ vs
theorem RI.start {w : World} {g : Nat} {R : Nat → List Int} {at_ : Nat} (h : Lo w g w) : RI w g R at_ 0 (.slice none 0 0) (.slice none 0 0) w :=
  ⟨h, own_as (Own.nil _ _) (by simp [gather]), [], rfl, World.ownsRow_nil _ _ _ _, fun k v hv => by simp at hv⟩
/-- A sector is read. -/
theorem RI.read {w wr w' : World} {g : Nat} {R : Nat → List Int} {at_ k : Nat} {vb va : Value} (h : RI w g R at_ k vb va wr) (hg : g < w.heap.size) (hlo : Lo w g w') (hc : Chg wr w' (fun k => k = g)) : RI w g R at_ k vb va w' := by
  obtain ⟨vs, hl, hr, hs⟩ := h.rows
  refine ⟨hlo, row_chg h.own hc hg, vs, hl, row_chg hr hc hg, hs.keep fun b cur h1 h2 h3 => ⟨hc.block b (blk_lt h3) (by omega), h2⟩⟩
theorem Own.lt' {w : World} {base : Nat} {v : Value} {l : List Int} (h : Own w base v l) {b : Nat} (hb : v.ownBlock = some b) : b < w.heap.size := (h.lt b hb).2
end Go.Proofs.Ytcgnfkiimnpdcaa
