/-
  Words for rows of bytes that a call owns, and for cells that it reads; one law for append.
-/
import Derived.Test.YtkjjafijmpacpaaDoorProg
import Derived.WalkKit
import Derived.WalkLawsBesides
import Derived.Maps.AppendAt
import Derived.Deep.Draws
import Derived.Lib.Hide
import Derived.KernelRfl
set_option linter.unusedVariables false
namespace Go.Proofs.YtkjjafijmpacpaaDoor
open Go.RowKit

/-- The cells xs lie at the address A, in a block below B. -/
def Cells (w : World) (B : Nat) (A : Option Addr) (xs : List Value) : Prop :=
  ∀ k u, xs[k]? = some u → ∃ b off, A = some ⟨b, off, none⟩ ∧ b < B ∧ w.cell? ⟨b, off + k, none⟩ = some u

theorem add_mk (b off k : Nat) : (⟨b, off, none⟩ : Addr).add k = ⟨b, off + k, none⟩ := by
  unfold Addr.add; by_cases h : k = 0 <;> simp [h]

section
variable {w w' : World} {B B' : Nat} {A : Option Addr} {xs : List Value}
theorem Cells.nil : Cells w B A [] := fun k u h => by simp at h
theorem Cells.keep (h : Cells w B A xs) (hk : ∀ p : Addr, p.block < B → w'.cell? p = w.cell? p) : Cells w' B A xs := fun k u hu => by
  obtain ⟨b, off, e, hb, hc⟩ := h k u hu
  exact ⟨b, off, e, hb, (hk _ hb).trans hc⟩
theorem Cells.more (h : Cells w B A xs) (hB : B ≤ B') : Cells w B' A xs := fun k u hu => by
  obtain ⟨b, off, e, hb, hc⟩ := h k u hu
  exact ⟨b, off, e, by omega, hc⟩
theorem Cells.whole (h : Cells w B A xs) : Cells w w.heap.size A xs := fun k u hu => by
  obtain ⟨b, off, e, hb, hc⟩ := h k u hu
  exact ⟨b, off, e, World.block_lt_of_cell? w _ hc, hc⟩
theorem Cells.below (h : Cells w B A xs) (hb : Below B w w') : Cells w' B A xs := h.keep fun _ hp => hb.cell hp
theorem Cells.alloc (h : Cells w B A xs) (hB : B ≤ w.heap.size) (o : Obj) : Cells (w.alloc o) B A xs := h.keep fun p hp => World.cell?_alloc_lt w o p (by omega)
theorem Cells.drew (h : Cells w B A xs) : Cells w.drew B A xs := h
theorem Cells.drewN (h : Cells w B A xs) (n : Nat) : Cells (w.drewN n) B A xs := h
theorem Cells.setCell (h : Cells w B A xs) {p : Addr} (hB : B ≤ p.block) (u : Value) : Cells (w.setCell p u) B A xs :=
  h.keep fun q hq => World.cell?_setCell_other w p q u (fun e => by subst e; omega)
theorem Cells.take (h : Cells w B A xs) (k : Nat) : Cells w B A (xs.take k) := fun j u hu => by
  rw [List.getElem?_take] at hu
  split at hu
  · exact h j u hu
  · cases hu
/-- What is read in one round: the address stands there as soon as there is one cell. -/
theorem Cells.form (h : Cells w B A xs) (hx : xs ≠ []) : ∃ b off, A = some ⟨b, off, none⟩ ∧ b < B ∧ ∀ k u, xs[k]? = some u → w.cell? ⟨b, off + k, none⟩ = some u := by
  rcases xs with _ | ⟨x, r⟩
  · exact absurd rfl hx
  · obtain ⟨b, off, rfl, hb, _⟩ := h 0 x rfl
    refine ⟨b, off, rfl, hb, fun k u hu => ?_⟩
    obtain ⟨b', off', e, _, hc⟩ := h k u hu
    injection e with e
    injection e with e1 e2
    subst e1 e2
    exact hc
end

theorem ret_int {k : IntKind} {a b : Int} (h : a = b) : Ending.returned (.int k a) = .returned (.int k b) := by rw [h]
theorem ret_bool {a b : Bool} (h : a = b) : Ending.returned (.bool a) = .returned (.bool b) := by rw [h]

/-- Block g is just the cells cs, of type t, none frozen. -/
def Blk (w : World) (g : Nat) (t : TypeId) (cs : Array Value) : Prop := w.heap[g]? = some (.cells cs t (0, 0))
section
variable {w w' : World} {g : Nat} {t : TypeId} {cs : Array Value}
theorem Blk.lt (h : Blk w g t cs) : g < w.heap.size := by
  rcases Nat.lt_or_ge g w.heap.size with hlt | hge
  · exact hlt
  · unfold Blk at h; rw [Array.getElem?_eq_none hge] at h; cases h
theorem Blk.cell (h : Blk w g t cs) (i : Nat) : w.cell? ⟨g, i, none⟩ = cs[i]? := cell_of_row w g i cs t (0, 0) h
theorem Blk.free (h : Blk w g t cs) (i : Nat) : w.frozen? ⟨g, i, none⟩ = false := by
  unfold Blk at h
  simp [World.frozen?, h]
theorem Blk.new (w : World) (t : TypeId) (cs : Array Value) : Blk (w.alloc (.cells cs t)) w.heap.size t cs := heap_alloc_new w _
theorem Blk.drew (h : Blk w g t cs) : Blk w.drew g t cs := h
theorem Blk.drewN (h : Blk w g t cs) (n : Nat) : Blk (w.drewN n) g t cs := h
theorem Blk.alloc (h : Blk w g t cs) (o : Obj) : Blk (w.alloc o) g t cs := (Below.heap_alloc w o g h.lt).trans h
theorem Blk.set_ (h : Blk w g t cs) (i : Nat) (u : Value) : Blk (w.setCell ⟨g, i, none⟩ u) g t (cs.setIfInBounds i u) := by
  unfold Blk at h ⊢
  simp [World.setCell, Array.getElem?_modify, h]
theorem Blk.far (h : Blk w g t cs) {p : Addr} (hp : g ≠ p.block) (u : Value) : Blk (w.setCell p u) g t cs := (Below.heap_setCell w p u g hp).trans h
theorem Blk.below {B : Nat} (h : Blk w g t cs) (hb : Below B w w') (hg : g < B) : Blk w' g t cs := (hb.block g hg).trans h
theorem Blk.grown {row : Option Nat} (h : Blk w g t cs) (hb : w.grownBy w' row) (hg : some g ≠ row) : Blk w' g t cs := (hb.block g h.lt hg).trans h
end

/-- A struct of three cells. -/
def Three (w : World) (g : Nat) (x y z : Value) : Prop := w.cell? ⟨g, 0, none⟩ = some x ∧ w.cell? ⟨g, 1, none⟩ = some y ∧ w.cell? ⟨g, 2, none⟩ = some z
theorem Three.new (w : World) (x y z : Value) (t : TypeId) : Three (w.alloc (.cells #[x, y, z] t)) w.heap.size x y z := ⟨by simp, by simp, by simp⟩
theorem Three.below {w w' : World} {g B : Nat} {x y z : Value} (h : Three w g x y z) (hb : Below B w w') (hg : g < B) : Three w' g x y z :=
  ⟨(hb.cell (p := ⟨g, 0, none⟩) hg).trans h.1, (hb.cell (p := ⟨g, 1, none⟩) hg).trans h.2.1, (hb.cell (p := ⟨g, 2, none⟩) hg).trans h.2.2⟩

theorem xor_full (n : Nat) (hn : n < 18446744073709551616) : 18446744073709551615 ^^^ n = 18446744073709551615 - n := by
  have h := BitVec.toNat_not (x := BitVec.ofNat 64 n)
  rw [BitVec.not_def, BitVec.toNat_xor, BitVec.toNat_allOnes, BitVec.toNat_ofNat, Nat.mod_eq_of_lt (by omega)] at h
  omega
theorem u64_max : IntKind.u64.max = 18446744073709551615 := by simp [IntKind.max, IntKind.bits, IntKind.signed]
theorem not_u64 (t : Int) (h0 : 0 ≤ t) (h1 : t ≤ 18446744073709551615) : bits .xor .u64 IntKind.u64.max t = 18446744073709551615 - t := by
  rw [u64_max, u64_xor _ _ (by omega) (by omega) h0 (by omega)]
  rw [show (18446744073709551615 : Int).toNat = 18446744073709551615 from rfl, xor_full _ (by omega)]
  omega

/-- A row of bytes. -/
abbrev U8 (l : List Int) : List Value := l.map (Value.int .u8)
/-- Each number is a byte. -/
def Oct (l : List Int) : Prop := ∀ x ∈ l, 0 ≤ x ∧ x ≤ 255
theorem Oct.nil : Oct [] := fun x h => by cases h
theorem Oct.app {a b : List Int} (ha : Oct a) (hb : Oct b) : Oct (a ++ b) := fun x h => by
  rcases List.mem_append.1 h with h | h
  · exact ha x h
  · exact hb x h
theorem Oct.cons {x : Int} {l : List Int} (h0 : 0 ≤ x) (h1 : x ≤ 255) (hl : Oct l) : Oct (x :: l) := fun y h => by
  rcases List.mem_cons.1 h with h | h
  · subst h; exact ⟨h0, h1⟩
  · exact hl y h
theorem Oct.at_ {l : List Int} (h : Oct l) {k : Nat} {x : Int} (hx : l[k]? = some x) : 0 ≤ x ∧ x ≤ 255 := h x (List.mem_of_getElem? hx)
theorem Oct.take {l : List Int} (h : Oct l) (k : Nat) : Oct (l.take k) := fun x hx => h x (List.mem_of_mem_take hx)
theorem Oct.drop {l : List Int} (h : Oct l) (k : Nat) : Oct (l.drop k) := fun x hx => h x (List.mem_of_mem_drop hx)

theorem Cells.u8 {w : World} {B : Nat} {A : Option Addr} {l : List Int} (h : Cells w B A (U8 l)) {k : Nat} (hk : k < l.length) : ∃ b off, A = some ⟨b, off, none⟩ ∧ b < B ∧ w.cell? ⟨b, off + k, none⟩ = some (.int .u8 (l[k]'hk)) :=
  h k _ (by simp [List.getElem?_eq_getElem hk])

/-- From w, v to w', v': only v's row was written; v' lies there or in a new block. -/
structure Grew (w : World) (v : Value) (w' : World) (v' : Value) : Prop where
  by_ : w.grownBy w' v.ownBlock
  at_ : v'.ownBlock = v.ownBlock ∨ ∀ g, v'.ownBlock = some g → w.heap.size ≤ g

theorem Grew.refl (w : World) (v : Value) : Grew w v w v := ⟨World.grownBy.refl w _, .inl rfl⟩
theorem Grew.trans {w w1 w2 : World} {v v1 v2 : Value} (h : Grew w v w1 v1) (k : Grew w1 v1 w2 v2) : Grew w v w2 v2 := by
  have hs := h.by_.size
  refine ⟨⟨k.by_.os.trans h.by_.os, k.by_.tape.trans h.by_.tape, k.by_.output.trans h.by_.output, Nat.le_trans hs k.by_.size, fun i hi hne => ?_⟩, ?_⟩
  · refine (k.by_.block i (by omega) ?_).trans (h.by_.block i hi hne)
    rcases h.at_ with e | e
    · rw [e]; exact hne
    · intro he; have := e i he.symm; omega
  · rcases k.at_ with e | e
    · rcases h.at_ with e' | e'
      · exact .inl (e.trans e')
      · exact .inr fun g hg => e' g (e ▸ hg)
    · exact .inr fun g hg => Nat.le_trans hs (e g hg)
theorem Grew.alloc {w : World} {v : Value} (o : Obj) : Grew w v (w.alloc o) v := ⟨World.grownBy_alloc w o _, .inl rfl⟩
theorem Grew.cell {w w' : World} {v v' : Value} (h : Grew w v w' v') {p : Addr} (hp : p.block < w.heap.size) (hne : some p.block ≠ v.ownBlock) : w'.cell? p = w.cell? p :=
  World.cell?_of_block (h.by_.block p.block hp hne)

end Go.Proofs.YtkjjafijmpacpaaDoor
