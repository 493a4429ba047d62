/-
  Words for rows of bytes that a call owns, and for cells that it reads; one law for append.
-/
import Derived.Test.YtkjbicenhncpeaaProg
import Derived.WalkKit
import Derived.WalkLawsBesides
import Derived.Maps.AppendAt
import Derived.Deep.Draws
import Derived.Lib.Hide
import Derived.KernelRfl
set_option linter.unusedVariables false
namespace Go.Proofs.Ytkjbicenhncpeaa
open Go.RowKit

/-- The cells xs lie at the address A, in a block below B. -/
def Cells (w : World) (B : Nat) (A : Option Addr) (xs : List Value) : Prop :=
  ∀ k u, xs[k]? = some u → ∃ b off, A = some ⟨b, off, none⟩ ∧ b < B ∧ w.cell? ⟨b, off + k, none⟩ = some u

theorem add_mk (b off k : Nat) : (⟨b, off, none⟩ : Addr).add k = ⟨b, off + k, none⟩ := by
  unfold Addr.add; by_cases h : k = 0 <;> simp [h]

section
variable {w w' : World} {B B' : Nat} {A : Option Addr} {xs : List Value}
theorem Cells.nil : Cells w B A [] := fun k u h => by simp at h
theorem Cells.keep (h : Cells w B A xs) (hk : ∀ p : Addr, p.block < B → w'.cell? p = w.cell? p) : Cells w' B A xs := fun k u hu => by
  obtain ⟨b, off, e, hb, hc⟩ := h k u hu
  exact ⟨b, off, e, hb, (hk _ hb).trans hc⟩
theorem Cells.more (h : Cells w B A xs) (hB : B ≤ B') : Cells w B' A xs := fun k u hu => by
  obtain ⟨b, off, e, hb, hc⟩ := h k u hu
  exact ⟨b, off, e, by omega, hc⟩
theorem Cells.whole (h : Cells w B A xs) : Cells w w.heap.size A xs := fun k u hu => by
  obtain ⟨b, off, e, hb, hc⟩ := h k u hu
  exact ⟨b, off, e, World.block_lt_of_cell? w _ hc, hc⟩
theorem Cells.below (h : Cells w B A xs) (hb : Below B w w') : Cells w' B A xs := h.keep fun _ hp => hb.cell hp
theorem Cells.alloc (h : Cells w B A xs) (hB : B ≤ w.heap.size) (o : Obj) : Cells (w.alloc o) B A xs := h.keep fun p hp => World.cell?_alloc_lt w o p (by omega)
theorem Cells.drew (h : Cells w B A xs) : Cells w.drew B A xs := h
theorem Cells.drewN (h : Cells w B A xs) (n : Nat) : Cells (w.drewN n) B A xs := h
theorem Cells.setCell (h : Cells w B A xs) {p : Addr} (hB : B ≤ p.block) (u : Value) : Cells (w.setCell p u) B A xs :=
  h.keep fun q hq => World.cell?_setCell_other w p q u (fun e => by subst e; omega)
theorem Cells.take (h : Cells w B A xs) (k : Nat) : Cells w B A (xs.take k) := fun j u hu => by
  rw [List.getElem?_take] at hu
  split at hu
  · exact h j u hu
  · cases hu
/-- What is read in one round: the address stands there as soon as there is one cell. -/
theorem Cells.form (h : Cells w B A xs) (hx : xs ≠ []) : ∃ b off, A = some ⟨b, off, none⟩ ∧ b < B ∧ ∀ k u, xs[k]? = some u → w.cell? ⟨b, off + k, none⟩ = some u := by
  rcases xs with _ | ⟨x, r⟩
  · exact absurd rfl hx
  · obtain ⟨b, off, rfl, hb, _⟩ := h 0 x rfl
    refine ⟨b, off, rfl, hb, fun k u hu => ?_⟩
    obtain ⟨b', off', e, _, hc⟩ := h k u hu
    injection e with e
    injection e with e1 e2
    subst e1 e2
    exact hc
end

theorem ret_int {k : IntKind} {a b : Int} (h : a = b) : Ending.returned (.int k a) = .returned (.int k b) := by rw [h]
theorem ret_bool {a b : Bool} (h : a = b) : Ending.returned (.bool a) = .returned (.bool b) := by rw [h]

/-- Block g is just the cells cs, of type t, none frozen. -/
def Blk (w : World) (g : Nat) (t : TypeId) (cs : Array Value) : Prop := w.heap[g]? = some (.cells cs t (0, 0))
section
variable {w w' : World} {g : Nat} {t : TypeId} {cs : Array Value}
theorem Blk.lt (h : Blk w g t cs) : g < w.heap.size := by
  rcases Nat.lt_or_ge g w.heap.size with hlt | hge
  · exact hlt
  · unfold Blk at h; rw [Array.getElem?_eq_none hge] at h; cases h
theorem Blk.cell (h : Blk w g t cs) (i : Nat) : w.cell? ⟨g, i, none⟩ = cs[i]? := cell_of_row w g i cs t (0, 0) h
theorem Blk.free (h : Blk w g t cs) (i : Nat) : w.frozen? ⟨g, i, none⟩ = false := by
  unfold Blk at h
  simp [World.frozen?, h]
theorem Blk.new (w : World) (t : TypeId) (cs : Array Value) : Blk (w.alloc (.cells cs t)) w.heap.size t cs := heap_alloc_new w _
theorem Blk.drew (h : Blk w g t cs) : Blk w.drew g t cs := h
theorem Blk.drewN (h : Blk w g t cs) (n : Nat) : Blk (w.drewN n) g t cs := h
theorem Blk.alloc (h : Blk w g t cs) (o : Obj) : Blk (w.alloc o) g t cs := (Below.heap_alloc w o g h.lt).trans h
theorem Blk.set_ (h : Blk w g t cs) (i : Nat) (u : Value) : Blk (w.setCell ⟨g, i, none⟩ u) g t (cs.setIfInBounds i u) := by
  unfold Blk at h ⊢
  simp [World.setCell, Array.getElem?_modify, h]
theorem Blk.far (h : Blk w g t cs) {p : Addr} (hp : g ≠ p.block) (u : Value) : Blk (w.setCell p u) g t cs := (Below.heap_setCell w p u g hp).trans h
theorem Blk.below {B : Nat} (h : Blk w g t cs) (hb : Below B w w') (hg : g < B) : Blk w' g t cs := (hb.block g hg).trans h
theorem Blk.grown {row : Option Nat} (h : Blk w g t cs) (hb : w.grownBy w' row) (hg : some g ≠ row) : Blk w' g t cs := (hb.block g h.lt hg).trans h
end

/-- A struct of three cells. -/
def Three (w : World) (g : Nat) (x y z : Value) : Prop := w.cell? ⟨g, 0, none⟩ = some x ∧ w.cell? ⟨g, 1, none⟩ = some y ∧ w.cell? ⟨g, 2, none⟩ = some z
theorem Three.new (w : World) (x y z : Value) (t : TypeId) : Three (w.alloc (.cells #[x, y, z] t)) w.heap.size x y z := ⟨by simp, by simp, by simp⟩
theorem Three.below {w w' : World} {g B : Nat} {x y z : Value} (h : Three w g x y z) (hb : Below B w w') (hg : g < B) : Three w' g x y z :=
  ⟨(hb.cell (p := ⟨g, 0, none⟩) hg).trans h.1, (hb.cell (p := ⟨g, 1, none⟩) hg).trans h.2.1, (hb.cell (p := ⟨g, 2, none⟩) hg).trans h.2.2⟩

theorem xor_full (n : Nat) (hn : n < 18446744073709551616) : 18446744073709551615 ^^^ n = 18446744073709551615 - n := by
  have h := BitVec.toNat_not (x := BitVec.ofNat 64 n)
  rw [BitVec.not_def, BitVec.toNat_xor, BitVec.toNat_allOnes, BitVec.toNat_ofNat, Nat.mod_eq_of_lt (by omega)] at h
  omega
theorem u64_max : IntKind.u64.max = 18446744073709551615 := by simp [IntKind.max, IntKind.bits, IntKind.signed]
theorem not_u64 (t : Int) (h0 : 0 ≤ t) (h1 : t ≤ 18446744073709551615) : bits .xor .u64 IntKind.u64.max t = 18446744073709551615 - t := by
  rw [u64_max, u64_xor _ _ (by omega) (by omega) h0 (by omega)]
  rw [show (18446744073709551615 : Int).toNat = 18446744073709551615 from rfl, xor_full _ (by omega)]
  omega

/-- A row of bytes. -/
abbrev U8 (l : List Int) : List Value := l.map (Value.int .u8)
/-- Each number is a byte. -/
def Oct (l : List Int) : Prop := ∀ x ∈ l, 0 ≤ x ∧ x ≤ 255
theorem Oct.nil : Oct [] := fun x h => by cases h
theorem Oct.app {a b : List Int} (ha : Oct a) (hb : Oct b) : Oct (a ++ b) := fun x h => by
  rcases List.mem_append.1 h with h | h
  · exact ha x h
  · exact hb x h
theorem Oct.cons {x : Int} {l : List Int} (h0 : 0 ≤ x) (h1 : x ≤ 255) (hl : Oct l) : Oct (x :: l) := fun y h => by
  rcases List.mem_cons.1 h with h | h
  · subst h; exact ⟨h0, h1⟩
  · exact hl y h
theorem Oct.at_ {l : List Int} (h : Oct l) {k : Nat} {x : Int} (hx : l[k]? = some x) : 0 ≤ x ∧ x ≤ 255 := h x (List.mem_of_getElem? hx)
theorem Oct.take {l : List Int} (h : Oct l) (k : Nat) : Oct (l.take k) := fun x hx => h x (List.mem_of_mem_take hx)
theorem Oct.drop {l : List Int} (h : Oct l) (k : Nat) : Oct (l.drop k) := fun x hx => h x (List.mem_of_mem_drop hx)

theorem Cells.u8 {w : World} {B : Nat} {A : Option Addr} {l : List Int} (h : Cells w B A (U8 l)) {k : Nat} (hk : k < l.length) : ∃ b off, A = some ⟨b, off, none⟩ ∧ b < B ∧ w.cell? ⟨b, off + k, none⟩ = some (.int .u8 (l[k]'hk)) :=
  h k _ (by simp [List.getElem?_eq_getElem hk])

/-- From w, v to w', v': only v's row was written; v' lies there or in a new block. -/
structure Grew (w : World) (v : Value) (w' : World) (v' : Value) : Prop where
  by_ : w.grownBy w' v.ownBlock
  at_ : v'.ownBlock = v.ownBlock ∨ ∀ g, v'.ownBlock = some g → w.heap.size ≤ g

theorem Grew.refl (w : World) (v : Value) : Grew w v w v := ⟨World.grownBy.refl w _, .inl rfl⟩
theorem Grew.trans {w w1 w2 : World} {v v1 v2 : Value} (h : Grew w v w1 v1) (k : Grew w1 v1 w2 v2) : Grew w v w2 v2 := by
  have hs := h.by_.size
  refine ⟨⟨k.by_.os.trans h.by_.os, k.by_.tape.trans h.by_.tape, k.by_.output.trans h.by_.output, Nat.le_trans hs k.by_.size, fun i hi hne => ?_⟩, ?_⟩
  · refine (k.by_.block i (by omega) ?_).trans (h.by_.block i hi hne)
    rcases h.at_ with e | e
    · rw [e]; exact hne
    · intro he; have := e i he.symm; omega
  · rcases k.at_ with e | e
    · rcases h.at_ with e' | e'
      · exact .inl (e.trans e')
      · exact .inr fun g hg => e' g (e ▸ hg)
    · exact .inr fun g hg => Nat.le_trans hs (e g hg)
theorem Grew.alloc {w : World} {v : Value} (o : Obj) : Grew w v (w.alloc o) v := ⟨World.grownBy_alloc w o _, .inl rfl⟩
theorem Grew.cell {w w' : World} {v v' : Value} (h : Grew w v w' v') {p : Addr} (hp : p.block < w.heap.size) (hne : some p.block ≠ v.ownBlock) : w'.cell? p = w.cell? p :=
  World.cell?_of_block (h.by_.block p.block hp hne)

/-- The value v is a slice that owns the bytes l, in a block from base on. -/
def Own (w : World) (base : Nat) (v : Value) (l : List Int) : Prop := w.ownsRow base 5 1 v l.length (U8 l)
theorem Grew.below {w w' : World} {v v' : Value} {base : Nat} {l : List Int} (h : Grew w v w' v') (ho : Own w base v l) (hb : base ≤ w.heap.size) : Below base w w' :=
  (Below.refl _ _).grown h.by_ hb fun g hg => (ho.lt g hg).1
section
variable {w w' : World} {base : Nat} {v : Value} {l : List Int}
theorem Own.nil (w : World) (base : Nat) : Own w base (.slice none 0 0) [] := World.ownsRow_nil _ _ _ _
theorem Own.alloc (h : Own w base v l) (o : Obj) : Own (w.alloc o) base v l := World.ownsRow.alloc h o
theorem Own.drew (h : Own w base v l) : Own w.drew base v l := h
theorem Own.drewN (h : Own w base v l) (n : Nat) : Own (w.drewN n) base v l := h
theorem Own.shape (h : Own w base v l) : ∃ A c, v = .slice A l.length c ∧ l.length ≤ c ∧ c ≤ maxLen ∧ Cells w w.heap.size A (U8 l) := by
  rcases h.2 with ⟨e, h0⟩ | ⟨g, cap, cur, e, hb, hh, hn, hm, hc, ht⟩
  · have hl : l = [] := List.eq_nil_of_length_eq_zero h0
    subst hl
    exact ⟨none, 0, e, by simp, by simp, Cells.nil⟩
  · refine ⟨_, cap, e, hn, hm, fun k u hu => ⟨g, 0, rfl, (h.lt g (by rw [e]; rfl)).2, ?_⟩⟩
    have := World.ownsRow.cells h (g := g) (by rw [e]; rfl) k u hu
    rwa [add_mk] at this
theorem Own.mono {b' : Nat} (h : Own w base v l) (hb : b' ≤ base) : Own w b' v l := by
  refine ⟨h.1, ?_⟩
  rcases h.2 with h1 | ⟨g, cap, cur, e, hb', rest⟩
  · exact .inl h1
  · exact .inr ⟨g, cap, cur, e, by omega, rest⟩
theorem Own.below (h : Own w base v l) (hb : Below w.heap.size w w') : Own w' base v l :=
  World.ownsRow.kept (row := none) h ⟨hb.os, hb.tape, hb.output, hb.size, fun k hk _ => hb.block k hk⟩ (by cases h' : v.ownBlock <;> simp)
end

theorem own_as {w : World} {base : Nat} {v : Value} {l l' : List Int} (h : Own w base v l) (e : l = l') : Own w base v l' := e ▸ h
theorem own_lit (w : World) (base : Nat) (x : Int) (hb : base ≤ w.heap.size) : Own (w.alloc (.cells #[.int .u8 x] 5)) base (.slice (some ⟨w.heap.size, 0, none⟩) 1 1) [x] :=
  World.ownsRow_lit w #[.int .u8 x] 1 hb (by decide) rfl
theorem one_u8 (l : List Int) : ∀ u ∈ U8 l, u.oneCell' = true := ints_oneCell _ l

theorem info8 : (Try.prog.info? 5).map (fun i => (i.zero, i.size, i.bytes)) = some (some (.int .u8 0), 1, 1) := by kernel_rfl

theorem Own.other {w : World} {base : Nat} {v : Value} {l : List Int} {g : Nat} {t : TypeId} {cs : Array Value} (h : Own w base v l) (hg : Blk w g t cs) (hne : 5 ≠ t) : some g ≠ v.ownBlock := by
  intro e
  rcases h.2 with ⟨rfl, _⟩ | ⟨g', cap, cur, rfl, _, hh, _⟩
  · cases e
  · injection e with e
    subst e
    unfold Blk at hg
    have hh' : w.heap[g]? = some (.cells cur 5 (0, 0)) := hh
    rw [hh'] at hg
    injection hg with hg
    injection hg with _ ht
    exact hne ht
theorem Own.store {w : World} {base : Nat} {v : Value} {l : List Int} {g : Nat} {t : TypeId} {cs : Array Value} (h : Own w base v l) (hg : Blk w g t cs) (hne : 5 ≠ t) (i : Nat) (u : Value) : Own (w.setCell ⟨g, i, none⟩ u) base v l := by
  have ho := h.other hg hne
  refine World.ownsRow.kept (row := some g) h ⟨rfl, rfl, rfl, by simp [World.setCell], fun k hk hk' => Below.heap_setCell _ _ _ _ (fun e => hk' (by rw [e]))⟩ (Or.inr fun e => ho e.symm)

/-- append of bytes onto a row that the call owns, whatever slice they come in (nil too): the run. -/
theorem run_app {w : World} (ty : TypeId) (base : Nat) (v : Value) (l : List Int) (hown : Own w base v l) (B : Nat) (A : Option Addr) (c : Nat) (news : List Int) (hc : Cells w B A (U8 news))
    (hlen : l.length + news.length ≤ 140737488355328) (hbase : base ≤ w.heap.size) :
    ∃ v' w', (Builtin.append_ #[37, 37] ty #[v, .slice A news.length c]).run Try.prog w = .ok v' w' ∧ Own w' base v' (l ++ news) ∧ Grew w v w' v' := by
  obtain ⟨i0, hi, hz0, hz1, hz2⟩ := info_parts info8
  rcases A with _ | ad
  · have hn : news = [] := by
      rcases news with _ | ⟨y, ys⟩
      · rfl
      · obtain ⟨b, off, e, _⟩ := hc 0 (.int .u8 y) rfl
        cases e
    subst hn
    refine ⟨v, w, ?_, by simpa using hown, Grew.refl _ _⟩
    rcases hown.2 with ⟨rfl, _⟩ | ⟨g, cap, cur, rfl, _, _, hnc, _⟩
    · simp [Builtin.append_, run_underlying Try.underlying37, sizeOf, typeInfo, hi, Builtin.lenOf, Builtin.firstCells]
    · simp [Builtin.append_, run_underlying Try.underlying37, sizeOf, typeInfo, hi, Builtin.lenOf, Builtin.firstCells, hnc, storeCells]
  · have hnews : ∀ j u, (U8 news)[j]? = some u → w.cell? (ad.add j) = some u := fun j u hu => by
      obtain ⟨b, off, e, _, hcell⟩ := hc j u hu
      injection e with e
      subst e
      rw [add_mk]; exact hcell
    obtain ⟨v', w', hr, h1, h2, _, h4⟩ := run_append_own_at (P := Try.prog) w base 37 ty 5 i0 (.int .u8 0) 1 1 Try.underlying37 hi hz0 hz1 hz2 rfl (by decide) v l.length (U8 l) hown ad news.length c (U8 news) (by simp) hnews (one_u8 _)
      (by unfold maxLen; omega) (by omega) hbase
    refine ⟨v', w', hr, ?_, ⟨h2, ?_⟩⟩
    · unfold Own; rw [List.length_append, show U8 (l ++ news) = U8 l ++ U8 news from List.map_append]; exact h1
    · rcases h4 with e | e
      · exact .inl e
      · exact .inr fun g hg => by rw [e] at hg; injection hg with hg; omega

theorem wp_app {o : Oper} {a : Act} {K : Act → World → Prop} {Q : Exit → Act → World → Prop} {w : World} (s x : Operand)
    (ho : o.op = .call { callee := .builtin .append, args := #[s, x], argTypes := #[37, 37] })
    (base : Nat) (v : Value) (l : List Int) (hs : a.eval s = v) (hown : Own w base v l)
    (B : Nat) (A : Option Addr) (c : Nat) (news : List Int) (hx : a.eval x = .slice A news.length c) (hc : Cells w B A (U8 news))
    (hlen : l.length + news.length ≤ 140737488355328) (hbase : base ≤ w.heap.size)
    (h : ∀ v' w', Own w' base v' (l ++ news) → Grew w v w' v' → K (a.put o.dst v') w') : o.wp Try.prog a w K Q := by
  obtain ⟨v', w', hrun, h1, h2⟩ := run_app o.type base v l hown B A c news hc hlen hbase
  unfold Oper.wp execOp
  simp only [ho, resolve, invoke, builtin, Sem.run_bind, Sem.run_pure, Result.andThen_ok, List.map_toArray, List.map_cons, List.map_nil, hs, hx, hrun]
  exact h v' w' h1 h2

/-- append of bytes, in a plain region. -/
theorem app_any {ops : Array Oper} {rest : List Oper} {o : Oper} {a : Act} {Q : Exit → Act → World → Prop} {w : World} (hgd : o.guard = none) (s x : Operand)
    (ho : o.op = .call { callee := .builtin .append, args := #[s, x], argTypes := #[37, 37] })
    (base : Nat) (v : Value) (l : List Int) (hs : a.eval s = v) (hown : Own w base v l)
    (B : Nat) (A : Option Addr) (c : Nat) (news : List Int) (hx : a.eval x = .slice A news.length c) (hc : Cells w B A (U8 news))
    (hlen : l.length + news.length ≤ 140737488355328) (hbase : base ≤ w.heap.size)
    (h : ∀ v' w', Own w' base v' (l ++ news) → Grew w v w' v' → wpList Try.prog ops Q rest (a.put o.dst v') w') : wpList Try.prog ops Q (o :: rest) a w :=
  wpList_plain hgd fun _ hK => wp_app s x ho base v l hs hown B A c news hx hc hlen hbase fun v' w' h1 h2 => hK _ _ (h v' w' h1 h2)

/-- append of bytes, in a region that draws its order. -/
theorem app_step {ops : Array Oper} {o : Oper} {a : Act} {K : Act → World → Prop} {Q : Exit → Act → World → Prop} {E : Prop} {w : World} (hgd : o.guard = none) (s x : Operand)
    (ho : o.op = .call { callee := .builtin .append, args := #[s, x], argTypes := #[37, 37] })
    (base : Nat) (v : Value) (l : List Int) (hs : a.eval s = v) (hown : Own w base v l)
    (B : Nat) (A : Option Addr) (c : Nat) (news : List Int) (hx : a.eval x = .slice A news.length c) (hc : Cells w B A (U8 news))
    (hlen : l.length + news.length ≤ 140737488355328) (hbase : base ≤ w.heap.size)
    (h : ∀ v' w', Own w' base v' (l ++ news) → Grew w v w' v' → K (a.put o.dst v') w') :
    if Region.wanted o (yielded ops a.tmps) = true then Oper.wp Try.prog o a w K Q else E := by
  have hw : Region.wanted o (yielded ops a.tmps) = true := by simp [Region.wanted, hgd]
  rw [if_pos hw]
  exact wp_app s x ho base v l hs hown B A c news hx hc hlen hbase h

theorem cells_mark (w : World) (l : List Int) (m : Nat × Nat) : Cells (w.alloc (.cells (U8 l).toArray 5 m)) (w.heap.size + 1) (some ⟨w.heap.size, 0, none⟩) (U8 l) := fun k u hu => by
  refine ⟨_, _, rfl, by simp, ?_⟩
  rw [Nat.zero_add, cell_of_row (w.alloc (.cells (U8 l).toArray 5 m)) w.heap.size k (U8 l).toArray 5 m (heap_alloc_new w _)]
  simpa using hu
theorem cells_new (w : World) (l : List Int) : Cells (w.alloc (.cells (U8 l).toArray 5)) (w.heap.size + 1) (some ⟨w.heap.size, 0, none⟩) (U8 l) := cells_mark w l (0, 0)

/-- append of one byte: the walk lays it in a block of its own first. -/
theorem app_one {ops : Array Oper} {rest : List Oper} {o : Oper} {a : Act} {Q : Exit → Act → World → Prop} {w : World} (hgd : o.guard = none) (s x : Operand)
    (ho : o.op = .call { callee := .builtin .append, args := #[s, x], argTypes := #[37, 37] })
    (base : Nat) (v : Value) (l : List Int) (y : Int) (hs : a.eval s = v) (hown : Own w base v l) (hx : a.eval x = .slice (some ⟨w.heap.size, 0, none⟩) 1 1)
    (hlen : l.length + 1 ≤ 140737488355328) (hbase : base ≤ w.heap.size)
    (h : ∀ v' w', Own w' base v' (l ++ [y]) → Grew w v w' v' → wpList Try.prog ops Q rest (a.put o.dst v') w') : wpList Try.prog ops Q (o :: rest) a (w.alloc (.cells #[.int .u8 y] 5)) :=
  app_any hgd s x ho base v l hs (hown.alloc _) _ _ 1 [y] hx (cells_new w [y]) (by simpa using hlen) (by simp; omega) fun v' w' h1 h2 => h v' w' h1 (Grew.trans (Grew.alloc _) h2)

/-- append of two bytes. -/
theorem app_two {ops : Array Oper} {rest : List Oper} {o : Oper} {a : Act} {Q : Exit → Act → World → Prop} {w : World} (hgd : o.guard = none) (s x : Operand)
    (ho : o.op = .call { callee := .builtin .append, args := #[s, x], argTypes := #[37, 37] })
    (base : Nat) (v : Value) (l : List Int) (y z : Int) (hs : a.eval s = v) (hown : Own w base v l) (hx : a.eval x = .slice (some ⟨w.heap.size, 0, none⟩) 2 2)
    (hlen : l.length + 2 ≤ 140737488355328) (hbase : base ≤ w.heap.size)
    (h : ∀ v' w', Own w' base v' (l ++ [y, z]) → Grew w v w' v' → wpList Try.prog ops Q rest (a.put o.dst v') w') : wpList Try.prog ops Q (o :: rest) a (w.alloc (.cells #[.int .u8 y, .int .u8 z] 5)) :=
  app_any hgd s x ho base v l hs (hown.alloc _) _ _ 2 [y, z] hx (cells_new w [y, z]) (by simpa using hlen) (by simp; omega) fun v' w' h1 h2 => h v' w' h1 (Grew.trans (Grew.alloc _) h2)

/-- A row that was laid whole. -/
theorem own_row (w : World) (base : Nat) (l : List Int) (hb : base ≤ w.heap.size) (hl : l.length ≤ maxLen) : Own (w.alloc (.cells (U8 l).toArray 5)) base (.slice (some ⟨w.heap.size, 0, none⟩) l.length l.length) l := by
  have h := World.ownsRow_lit (base := base) (e := 5) (size := 1) w (U8 l).toArray l.length hb hl (by simp)
  simpa [Own] using h
theorem Own.cells {w : World} {base : Nat} {A : Option Addr} {n c : Nat} {l : List Int} (h : Own w base (.slice A n c) l) : Cells w w.heap.size A (U8 l) := by
  obtain ⟨A', c', e, _, _, hc⟩ := h.shape
  injection e with e1
  subst e1
  exact hc
end Go.Proofs.Ytkjbicenhncpeaa
